import Derived.Test.YtjienkojedlfjaaNB6
namespace Vai.L21
open Go Go.Proofs Vai Vai.L04 Vai.L06
set_option maxRecDepth 100000
set_option linter.unusedVariables false
set_option linter.unusedSimpArgs false
structure Mk where
  p : Int
  b : Int
  c : Int
  m : Int
  q : Int
def Mk.av (x : Mk) : AV := .agg [.int .i64 x.p, .int .i64 x.b, .int .i64 x.c, .int .i64 x.m, .int .i64 x.q]
def Mk.may (x : Mk) : Bool := decide (0 ≤ x.p ∧ x.p ≤ 1152921504606846976 ∧ 0 ≤ x.b ∧ x.b ≤ 1152921504606846976 ∧ 0 ≤ x.c ∧ x.c ≤ 1152921504606846976 ∧ 0 ≤ x.m ∧ x.m ≤ x.c ∧ 0 ≤ x.q ∧ x.q ≤ 1024)
theorem Mk.may_iff {x : Mk} : x.may = true ↔ 0 ≤ x.p ∧ x.p ≤ 1152921504606846976 ∧ 0 ≤ x.b ∧ x.b ≤ 1152921504606846976 ∧ 0 ≤ x.c ∧ x.c ≤ 1152921504606846976 ∧ 0 ≤ x.m ∧ x.m ≤ x.c ∧ 0 ≤ x.q ∧ x.q ≤ 1024 := by unfold Mk.may; rw [decide_eq_true_eq]
def aceP (x : Mk) : Int := if x.may = true then x.p.tmod 8 else 0
def ceP (x : Mk) : Int := if x.may = true then IntKind.wrap .u32 (x.b.tmod 16777216) else 0
structure Il where
  got : List Spn
  m : Mk
def Il.av (x : Il) : AV := .agg [.osl (prows x.got), .int .i64 x.m.p, .int .i64 x.m.b, .int .i64 x.m.c, .int .i64 x.m.m, .int .i64 x.m.q]
def Il.may (x : Il) : Bool := mayP x.got && x.m.may
def Il.none : Il := ⟨[], ⟨0, 0, 0, 0, 0⟩⟩
structure Rc where
  w : Wv
  s0 : Il
  s1 : Il
  s2 : Il
  s3 : Il
def Rc.av (r : Rc) : AV := .agg [.int .i64 r.w.base, .osl r.w.b, .osl (prows r.w.l), .int .i64 r.w.cap, .int .i64 r.w.end_,
  .osl (prows r.s0.got), .int .i64 r.s0.m.p, .int .i64 r.s0.m.b, .int .i64 r.s0.m.c, .int .i64 r.s0.m.m, .int .i64 r.s0.m.q,
  .osl (prows r.s1.got), .int .i64 r.s1.m.p, .int .i64 r.s1.m.b, .int .i64 r.s1.m.c, .int .i64 r.s1.m.m, .int .i64 r.s1.m.q,
  .osl (prows r.s2.got), .int .i64 r.s2.m.p, .int .i64 r.s2.m.b, .int .i64 r.s2.m.c, .int .i64 r.s2.m.m, .int .i64 r.s2.m.q,
  .osl (prows r.s3.got), .int .i64 r.s3.m.p, .int .i64 r.s3.m.b, .int .i64 r.s3.m.c, .int .i64 r.s3.m.m, .int .i64 r.s3.m.q]
def Rc.none : Rc := ⟨Wv.none, Il.none, Il.none, Il.none, Il.none⟩
def Rc.at (r : Rc) (i : Int) : Il := if i = 0 then r.s0 else if i = 1 then r.s1 else if i = 2 then r.s2 else r.s3
def Rc.set (r : Rc) (i : Int) (x : Il) : Rc := if i = 0 then { r with s0 := x } else if i = 1 then { r with s1 := x } else if i = 2 then { r with s2 := x } else { r with s3 := x }
def Rc.may (r : Rc) : Bool := r.w.may && (r.s0.may && r.s1.may && r.s2.may && r.s3.may)
theorem Rc.may_at {r : Rc} (h : r.may = true) (i : Int) : (r.at i).may = true := by
  unfold Rc.may at h
  simp only [Bool.and_eq_true] at h
  unfold Rc.at
  split
  · exact h.2.1.1.1
  · split
    · exact h.2.1.1.2
    · split
      · exact h.2.1.2
      · exact h.2.2
theorem Rc.may_w {r : Rc} (h : r.may = true) : r.w.may = true := by
  unfold Rc.may at h
  rw [Bool.and_eq_true] at h
  exact h.1
theorem Rc.may_set {r : Rc} (h : r.may = true) {w : Wv} (hw : w.may = true) (i : Int) {x : Il} (hx : x.may = true) : Rc.may { r.set i x with w := w } = true := by
  unfold Rc.may at h ⊢
  simp only [Bool.and_eq_true] at h ⊢
  refine ⟨hw, ?_⟩
  unfold Rc.set
  split
  · exact ⟨⟨⟨hx, h.2.1.1.2⟩, h.2.1.2⟩, h.2.2⟩
  · split
    · exact ⟨⟨⟨h.2.1.1.1, hx⟩, h.2.1.2⟩, h.2.2⟩
    · split
      · exact ⟨⟨⟨h.2.1.1.1, h.2.1.1.2⟩, hx⟩, h.2.2⟩
      · exact ⟨⟨⟨h.2.1.1.1, h.2.1.1.2⟩, h.2.1.2⟩, hx⟩
structure Pr where
  a : Int
  b : Int
abbrev Pr.av (x : Pr) : AV := .agg [.int .u32 x.a, .int .u32 x.b]
def qrows (l : List Pr) : List AV := l.map Pr.av
structure Sg where
  kind : Int
  sub : Int
  fin : Bool
  ecn : Bool
  seq : Int
  dsn : Int
  got : Int
  dgot : Int
  win : Int
  ace : Int
  ce : Int
  at_ : Int
  echo : Int
  sacks : List Pr
  b : List AV
def Sg.av (x : Sg) : AV := .agg [.int .i64 x.kind, .int .i64 x.sub, .bool x.fin, .bool x.ecn, .int .u32 x.seq, .int .u32 x.dsn, .int .u32 x.got, .int .u32 x.dgot, .int .i64 x.win, .int .i64 x.ace, .int .u32 x.ce, .int .u32 x.at_, .int .u32 x.echo, .osl (qrows x.sacks), .osl x.b]
def Sg.none : Sg := ⟨0, 0, false, false, 0, 0, 0, 0, 0, 0, 0, 0, 0, [], []⟩
def Sg.may (x : Sg) : Bool := decide (0 ≤ x.kind ∧ x.kind ≤ 4 ∧ 0 ≤ x.sub ∧ x.sub ≤ 3 ∧ 0 ≤ x.win ∧ x.win ≤ 65535 ∧ 0 ≤ x.ace ∧ x.ace ≤ 7 ∧ x.ce < 16777216 ∧ x.sacks.length ≤ 3 ∧ x.b.length ≤ 1460)
theorem Sg.may_iff {x : Sg} : x.may = true ↔ 0 ≤ x.kind ∧ x.kind ≤ 4 ∧ 0 ≤ x.sub ∧ x.sub ≤ 3 ∧ 0 ≤ x.win ∧ x.win ≤ 65535 ∧ 0 ≤ x.ace ∧ x.ace ≤ 7 ∧ x.ce < 16777216 ∧ x.sacks.length ≤ 3 ∧ x.b.length ≤ 1460 := by unfold Sg.may; rw [decide_eq_true_eq]
def nearP (n : Int) : Int := if (if 4611686018427387904 < n then 4611686018427387904 else n) > 0 then (if 4611686018427387904 < n then 4611686018427387904 else n) else 0
def unwP (near low : Int) : Int :=
  let m := nearP near
  let n := m - m % 4294967296 + low
  if n - m ≥ 2147483648 then (if n ≥ 4294967296 then n - 4294967296 else n) else if m - n > 2147483648 then n + 4294967296 else n
theorem nearP_rng (n : Int) : 0 ≤ nearP n ∧ nearP n ≤ 4611686018427387904 := by unfold nearP; split <;> split <;> omega
theorem nearP_of {n : Int} (h0 : 0 ≤ n) (h1 : n ≤ 4611686018427387904) : nearP n = n := by unfold nearP; split <;> split <;> omega
theorem unwP_rng (near : Int) {low : Int} (h0 : 0 ≤ low) (h1 : low < 4294967296) : 0 ≤ unwP near low ∧ unwP near low ≤ 4611686022722355200 := by
  have h := nearP_rng near
  unfold unwP
  dsimp only
  split
  · split <;> omega
  · split <;> omega
def lowP (n : Int) : Int := IntKind.wrap .u32 n
def farP (w : Wv) : Int := if w.base + readyP w = w.end_ then w.base + readyP w + 1 else w.base + readyP w
def sackF (g : Int) : List Spn → List Pr → List Pr
  | [], xs => xs
  | s :: m, xs => if s.a > g ∧ xs.length < 3 then sackF g m (xs ++ [⟨lowP s.a, lowP s.b⟩]) else sackF g m xs
def sackP (l : List Spn) (g : Int) : List Pr := sackF g l []
theorem sackF_len (g : Int) : ∀ (m : List Spn) (xs : List Pr), xs.length ≤ 3 → (sackF g m xs).length ≤ 3
  | [], xs, h => h
  | s :: m, xs, h => by
    unfold sackF
    split
    · rename_i c; exact sackF_len g m _ (by rw [List.length_append, List.length_singleton]; omega)
    · exact sackF_len g m _ h
theorem sackF_full (g : Int) : ∀ (m : List Spn) (xs : List Pr), 3 ≤ xs.length → sackF g m xs = xs
  | [], xs, h => rfl
  | s :: m, xs, h => by
    unfold sackF
    rw [if_neg (by omega)]
    exact sackF_full g m xs h
def winP (w : Wv) : Int := if 65535 < (if 0 > edgeW w - farP w then 0 else edgeW w - farP w) then 65535 else (if 0 > edgeW w - farP w then 0 else edgeW w - farP w)
def toldE (r : Rc) (sub : Int) : Int := if r.may = true ∧ 0 ≤ sub ∧ sub ≤ 3 then 0 else 1
def toldS (r : Rc) (sub echo : Int) : Sg := if toldE r sub = 0 then
  ⟨3, sub, false, true, 0, 0, lowP (gapP (r.at sub).got 0), lowP (farP r.w), winP r.w, aceP (r.at sub).m, ceP (r.at sub).m, 0, echo, sackP (r.at sub).got (gapP (r.at sub).got 0), []⟩ else Sg.none
def preE (r : Rc) (x : Sg) : Int := if r.may = false then 1 else if x.may = false ∨ x.kind ≠ 2 ∨ x.fin ≠ (x.b.length == 0) then 7 else 0
def rpE (w : Wv) (x : Sg) (n : Int) : Int := if x.fin = true then shutE w n else if n + x.b.length > edgeW w then 4 else putK w n x.b
def rpW (w : Wv) (x : Sg) (n : Int) : Wv := if x.fin = true then shutW w n else if n + x.b.length > edgeW w then w else putW w n x.b
def tSeq (r : Rc) (x : Sg) : Int := unwP (gapP (r.at x.sub).got 0) x.seq
def tAt (r : Rc) (x : Sg) : Int := unwP (farP r.w) x.dsn
def tN (x : Sg) : Int := if (x.b.length : Int) < 1 then 1 else x.b.length
def tSp (r : Rc) (x : Sg) : Spn := ⟨tSeq r x, tSeq r x + tN x⟩
def tM (r : Rc) (x : Sg) (mk : Bool) : Mk := if mk = true then ⟨(r.at x.sub).m.p + 1, (r.at x.sub).m.b + tN x, (r.at x.sub).m.c, (r.at x.sub).m.m, (r.at x.sub).m.q⟩ else (r.at x.sub).m
def takeE (r : Rc) (x : Sg) (mk : Bool) : Int :=
  if preE r x ≠ 0 then preE r x else if rpE r.w x (tAt r x) ≠ 0 then rpE r.w x (tAt r x) else if addE (r.at x.sub).got (tSp r x) ≠ 0 then addE (r.at x.sub).got (tSp r x)
  else if mk = true ∧ (tM r x mk).may = false then 5 else 0
def takeT (r : Rc) (x : Sg) (mk : Bool) : Rc := { r.set x.sub ⟨addR (r.at x.sub).got (tSp r x), tM r x mk⟩ with w := rpW r.w x (tAt r x) }
def takeR (r : Rc) (x : Sg) (mk : Bool) : Rc := if takeE r x mk = 0 then takeT r x mk else Rc.none
def takeS (r : Rc) (x : Sg) (mk : Bool) : Sg := if takeE r x mk = 0 then toldS (takeT r x mk) x.sub x.at_ else Sg.none
def readRE (r : Rc) (n : Int) : Int := if r.may = true then readE r.w n else 1
def readR (r : Rc) (n : Int) : Rc := if readRE r n = 0 then { r with w := readW r.w n } else Rc.none
def readRB (r : Rc) (n : Int) : List AV := if readRE r n = 0 then readB r.w n else []
def newR (room : Int) : Rc := if newE room = 0 then { Rc.none with w := newW room } else Rc.none
theorem putW_zero {w : Wv} (hb0 : IsB w.b) {n : Int} {bs : List AV} (hb : IsB bs) (hbl : bs.length ≤ 140737488355) (k : putK w n bs = 0) :
    w.may = true ∧ 0 ≤ n ∧ n ≤ 2305843009213693952 ∧ (w.end_ = -1 ∨ n + bs.length ≤ w.end_) ∧ ((lowW w n ≥ highW w n bs.length ∧ putW w n bs = w) ∨
      (lowW w n < highW w n bs.length ∧ PutF w.base n (lowW w n) (highW w n bs.length) w.b bs w.l w.cap ∧ addE w.l ⟨lowW w n, highW w n bs.length⟩ = 0 ∧
        putW w n bs = ⟨w.base, putB w.base n (lowW w n) (highW w n bs.length) w.b bs w.l, addR w.l ⟨lowW w n, highW w n bs.length⟩, w.cap, w.end_⟩)) := by
  have h : ¬ (w.may = false ∨ n < 0 ∨ n > 2305843009213693952) := fun x => by unfold putK at k; rw [if_pos x] at k; cases k
  have h2 : ¬ (w.end_ ≠ -1 ∧ n + bs.length > w.end_) := fun x => by unfold putK at k; rw [if_neg h, if_pos x] at k; cases k
  have hm : w.may = true := by cases hm : w.may; exact absurd (.inl hm) h; rfl
  have h1 : ¬ n < 0 := fun x => h (.inr (.inl x))
  have h3 : ¬ n > 2305843009213693952 := fun x => h (.inr (.inr x))
  refine ⟨hm, by omega, by omega, by omega, ?_⟩
  by_cases c : lowW w n ≥ highW w n bs.length
  · exact .inl ⟨c, by unfold putW; rw [if_neg (by simp [k]), if_pos c]⟩
  · have d : addE w.l ⟨lowW w n, highW w n bs.length⟩ = 0 := by unfold putK at k; rw [if_neg h, if_neg h2, if_neg c] at k; exact k
    have hlh := low_high (w := w) (n := n) (k := bs.length) (by omega) (by omega) hbl
    have f := put_facts (mayOf hm) hb0 hb hbl (by omega) hlh.1 hlh.2.1 (by omega) hlh.2.2.1 hlh.2.2.2.1 d
    exact .inr ⟨by omega, f, d, by unfold putW; rw [if_neg (by simp [k]), if_neg c]⟩
structure Nxt (w u : Wv) : Prop where
  may : u.may = true
  base : u.base = w.base
  cap : u.cap = w.cap
  me : ∀ n, mem w.l n → mem u.l n
  end_ : w.end_ = -1 ∨ u.end_ = w.end_
  b : IsB u.b
theorem put_next {w : Wv} (hb0 : IsB w.b) {n : Int} {bs : List AV} (hb : IsB bs) (hbl : bs.length ≤ 140737488355) (k : putK w n bs = 0) : Nxt w (putW w n bs) := by
  obtain ⟨hm, h0, h1, he, ⟨c, e⟩ | ⟨c, f, d, e⟩⟩ := putW_zero hb0 hb hbl k
  · rw [e]; exact ⟨hm, rfl, rfl, fun _ h => h, .inr rfl, hb0⟩
  · have hlh := low_high (w := w) (n := n) (k := bs.length) (by omega) (by omega) hbl
    have hu := put_may (mayOf hm) f hlh.1 (by rcases he with h | h <;> omega)
    rw [e]
    exact ⟨mayW_plain.2 hu, rfl, rfl, fun m h => (f.me m).2 (.inl h), .inr rfl, f.hB⟩
theorem shut_next {w : Wv} (hb0 : IsB w.b) {n : Int} (k : shutE w n = 0) : Nxt w (shutW w n) := by
  obtain ⟨h1, h2, h3, h4, h5, h6⟩ := shutW_may k
  have he : w.end_ = -1 ∨ n = w.end_ := by
    unfold shutE at k
    rw [if_pos ⟨h1, h3, h4⟩] at k
    split at k
    · cases k
    · omega
  refine ⟨h6, ?_, ?_, fun m h => ?_, ?_, ?_⟩ <;> rw [h2]
  · exact h
  · exact he
  · exact hb0
theorem rp_next {w : Wv} (hb0 : IsB w.b) {x : Sg} (hb : IsB x.b) (hbl : x.b.length ≤ 1460) {n : Int} (k : rpE w x n = 0) : Nxt w (rpW w x n) := by
  unfold rpE at k
  unfold rpW
  split
  · rename_i h; rw [if_pos h] at k; exact shut_next hb0 k
  · rename_i h
    rw [if_neg h] at k
    split
    · rename_i h2; rw [if_pos h2] at k; cases k
    · rename_i h2; rw [if_neg h2] at k; exact put_next hb0 hb (by omega) k
theorem far_rng {w : Wv} (h : w.may = true) : w.base ≤ farP w ∧ farP w ≤ w.base + w.b.length + 1 ∧ farP w ≤ edgeW w + 1 ∧ edgeW w ≤ 2305843009213693952 ∧ edgeW w ≤ w.base + w.cap ∧ 0 ≤ w.base ∧ w.base ≤ edgeW w ∧ w.base + w.b.length ≤ edgeW w := by
  obtain ⟨g1, g2, g3, g4, g5⟩ := ready_le h
  have hm := mayOf h
  have h1 := hm.bl; have h2 := hm.ue; have h3 := hm.edge; have h4 := hm.b0; have h5 := hm.ge
  have e : edgeW w = edgeP w.base w.cap := by unfold edgeW; rw [if_pos h]
  have e2 : edgeP w.base w.cap ≤ w.base + w.cap := by unfold edgeP; split <;> omega
  unfold farP
  rw [e]
  split <;> omega
end Vai.L21
