/- Walk of treadleref6.taken: an instruction's field, read. -/
import Derived.Test.YtnmcdifkknphgaaRefD
import Derived.Test.YtnmcdifkknphgaaGen
namespace Go.Proofs.Ytnmcdifkknphgaa
open Go.RowKit

/-- A field, read. -/
def takenM (r : Rdr) (x : Ins) (c : UInt8) : (Rdr × Ins) × Int :=
  if c = 65 then ((r.byte.2, { x with a := (r.byte.1 : Int) }), r.byte.2.err) else if c = 66 then ((r.byte.2, { x with b := (r.byte.1 : Int) }), r.byte.2.err) else if c = 67 then ((r.byte.2, { x with c := (r.byte.1 : Int) }), r.byte.2.err)
  else if c = 97 then ((r.number.2, { x with a := r.number.1 }), r.number.2.err) else if c = 78 then ((r.number.2, { x with n := r.number.1 }), r.number.2.err)
  else if (r.text r.xs.length).2.err = 0 then (((r.text r.xs.length).2, { x with v := (datumDecode (r.text r.xs.length).1).1 }), (datumDecode (r.text r.xs.length).1).2) else (((r.text r.xs.length).2, x), (r.text r.xs.length).2.err)

theorem loc_eight {w : World} {b : Nat} {v0 v1 v2 v3 v4 v5 v6 v7 : Value} {t : TypeId} (h : Loc w b #[v0, v1, v2, v3, v4, v5, v6, v7] t) :
    w.cell? ⟨b, 0, none⟩ = some v0 ∧ w.cell? ⟨b, 1, none⟩ = some v1 ∧ w.cell? ⟨b, 2, none⟩ = some v2 ∧ w.cell? ⟨b, 3, none⟩ = some v3 ∧ w.cell? ⟨b, 4, none⟩ = some v4 ∧ w.cell? ⟨b, 5, none⟩ = some v5 ∧ w.cell? ⟨b, 6, none⟩ = some v6 ∧ w.cell? ⟨b, 7, none⟩ = some v7 :=
  ⟨h.cell 0, h.cell 1, h.cell 2, h.cell 3, h.cell 4, h.cell 5, h.cell 6, h.cell 7⟩
theorem free_eight {w : World} {b : Nat} {c : Array Value} {t : TypeId} (h : Loc w b c t) :
    w.frozen? ⟨b, 0, none⟩ = false ∧ w.frozen? ⟨b, 1, none⟩ = false ∧ w.frozen? ⟨b, 2, none⟩ = false ∧ w.frozen? ⟨b, 3, none⟩ = false ∧ w.frozen? ⟨b, 4, none⟩ = false ∧ w.frozen? ⟨b, 5, none⟩ = false ∧ w.frozen? ⟨b, 6, none⟩ = false ∧ w.frozen? ⟨b, 7, none⟩ = false :=
  ⟨h.free 0, h.free 1, h.free 2, h.free 3, h.free 4, h.free 5, h.free 6, h.free 7⟩

/-- An instruction laid cell by cell. -/
def putX (w : World) (b : Nat) (x : Ins) : World :=
  (((((((w.setCell ⟨b, 0, none⟩ (.int .i64 x.op)).setCell ⟨b, 1, none⟩ (.int .i64 x.a)).setCell ⟨b, 2, none⟩ (.int .i64 x.b)).setCell ⟨b, 3, none⟩ (.int .i64 x.c)).setCell ⟨b, 4, none⟩ (.int .i64 x.n)).setCell ⟨b, 5, none⟩ (.int .i64 x.v.kind)).setCell ⟨b, 6, none⟩ (.int .i64 x.v.num)).setCell ⟨b, 7, none⟩ (.string x.v.text)

theorem putX_loc {w : World} {b : Nat} {c0 c1 c2 c3 c4 c5 c6 c7 : Value} {t : TypeId} (h : Loc w b #[c0, c1, c2, c3, c4, c5, c6, c7] t) (x : Ins) : Loc (putX w b x) b (insCells x) t := by
  have L := (((((((h.set 0 (.int .i64 x.op)).set 1 (.int .i64 x.a)).set 2 (.int .i64 x.b)).set 3 (.int .i64 x.c)).set 4 (.int .i64 x.n)).set 5 (.int .i64 x.v.kind)).set 6 (.int .i64 x.v.num)).set 7 (.string x.v.text)
  simp only [List.setIfInBounds_toArray, List.set_cons_zero, List.set_cons_succ] at L
  exact L
theorem putX_other {w : World} {b b' : Nat} {c : Array Value} {t : TypeId} (h : Loc w b' c t) (hne : b' ≠ b) (x : Ins) : Loc (putX w b x) b' c t :=
  (((((((h.other (a := ⟨b, 0, none⟩) hne _).other (a := ⟨b, 1, none⟩) hne _).other (a := ⟨b, 2, none⟩) hne _).other (a := ⟨b, 3, none⟩) hne _).other (a := ⟨b, 4, none⟩) hne _).other (a := ⟨b, 5, none⟩) hne _).other (a := ⟨b, 6, none⟩) hne _).other (a := ⟨b, 7, none⟩) hne _
theorem putX_below {B : Nat} {a w : World} {b : Nat} (h : Below B a w) (hb : B ≤ b) (x : Ins) : Below B a (putX w b x) :=
  (((((((h.setCell (p := ⟨b, 0, none⟩) hb _).setCell (p := ⟨b, 1, none⟩) hb _).setCell (p := ⟨b, 2, none⟩) hb _).setCell (p := ⟨b, 3, none⟩) hb _).setCell (p := ⟨b, 4, none⟩) hb _).setCell (p := ⟨b, 5, none⟩) hb _).setCell (p := ⟨b, 6, none⟩) hb _).setCell (p := ⟨b, 7, none⟩) hb _

/-- The blocks of taken: the reader, the instruction, the results of both. -/
structure TSt (w W : World) (c0 c1 c2 c3 : Value) (X : Array Value) : Prop where
  r : Loc W w.heap.size #[c0, c1, c2, c3] 95
  x : Loc W (w.heap.size + 1) X 59
  rr : Loc W (w.heap.size + 2) #[.slice none 0 0, .int .i64 0, .int .i64 0, .int .i64 0] 95
  xx : Loc W (w.heap.size + 3) #[.int .i64 0, .int .i64 0, .int .i64 0, .int .i64 0, .int .i64 0, .int .i64 0, .int .i64 0, .string ⟨#[]⟩] 59
  b : Below w.heap.size w W

theorem TSt.new (w : World) (c0 c1 c2 c3 : Value) (X : Array Value) :
    TSt w ((((w.alloc (.cells #[c0, c1, c2, c3] 95)).alloc (.cells X 59)).alloc (.cells #[.slice none 0 0, .int .i64 0, .int .i64 0, .int .i64 0] 95)).alloc (.cells #[.int .i64 0, .int .i64 0, .int .i64 0, .int .i64 0, .int .i64 0, .int .i64 0, .int .i64 0, .string ⟨#[]⟩] 59)) c0 c1 c2 c3 X := by
  have r := (((Loc.new w #[c0, c1, c2, c3] 95).alloc (.cells X 59)).alloc (.cells #[.slice none 0 0, .int .i64 0, .int .i64 0, .int .i64 0] 95)).alloc (.cells #[.int .i64 0, .int .i64 0, .int .i64 0, .int .i64 0, .int .i64 0, .int .i64 0, .int .i64 0, .string ⟨#[]⟩] 59)
  have x := ((Loc.new (w.alloc (.cells #[c0, c1, c2, c3] 95)) X 59).alloc (.cells #[.slice none 0 0, .int .i64 0, .int .i64 0, .int .i64 0] 95)).alloc (.cells #[.int .i64 0, .int .i64 0, .int .i64 0, .int .i64 0, .int .i64 0, .int .i64 0, .int .i64 0, .string ⟨#[]⟩] 59)
  have rr := (Loc.new ((w.alloc (.cells #[c0, c1, c2, c3] 95)).alloc (.cells X 59)) #[.slice none 0 0, .int .i64 0, .int .i64 0, .int .i64 0] 95).alloc (.cells #[.int .i64 0, .int .i64 0, .int .i64 0, .int .i64 0, .int .i64 0, .int .i64 0, .int .i64 0, .string ⟨#[]⟩] 59)
  have xx := Loc.new (((w.alloc (.cells #[c0, c1, c2, c3] 95)).alloc (.cells X 59)).alloc (.cells #[.slice none 0 0, .int .i64 0, .int .i64 0, .int .i64 0] 95)) #[.int .i64 0, .int .i64 0, .int .i64 0, .int .i64 0, .int .i64 0, .int .i64 0, .int .i64 0, .string ⟨#[]⟩] 59
  simp only [World.size_alloc] at x rr xx
  exact ⟨r, x, rr, xx, ((((Below.refl w.heap.size w).alloc (Nat.le_refl _) _).alloc (by simp) _).alloc (by simp; omega) _).alloc (by simp; omega) _⟩

namespace TSt
variable {w W V : World} {c0 c1 c2 c3 : Value} {X : Array Value}
theorem below (h : TSt w W c0 c1 c2 c3 X) (hb : Below W.heap.size W V) : TSt w V c0 c1 c2 c3 X :=
  ⟨h.r.below hb h.r.lt, h.x.below hb h.x.lt, h.rr.below hb h.rr.lt, h.xx.below hb h.xx.lt, below_then h.b hb h.b.size⟩
theorem putR (h : TSt w W c0 c1 c2 c3 X) (u0 u1 u2 u3 : Value) : TSt w (put4 W w.heap.size u0 u1 u2 u3) u0 u1 u2 u3 X := by
  obtain ⟨_, _, _, _, r, b⟩ := h.r.put4 h.b (Nat.le_refl _) u0 u1 u2 u3
  exact ⟨r, loc_put4o h.x (by omega) _ _ _ _, loc_put4o h.rr (by omega) _ _ _ _, loc_put4o h.xx (by omega) _ _ _ _, b⟩
theorem setX (h : TSt w W c0 c1 c2 c3 X) (i : Nat) (v : Value) : TSt w (W.setCell ⟨w.heap.size + 1, i, none⟩ v) c0 c1 c2 c3 (X.setIfInBounds i v) :=
  ⟨h.r.other (a := ⟨w.heap.size + 1, i, none⟩) (show w.heap.size ≠ w.heap.size + 1 by omega) v, h.x.set i v, h.rr.other (a := ⟨w.heap.size + 1, i, none⟩) (show w.heap.size + 2 ≠ w.heap.size + 1 by omega) v,
    h.xx.other (a := ⟨w.heap.size + 1, i, none⟩) (show w.heap.size + 3 ≠ w.heap.size + 1 by omega) v, h.b.setCell (p := ⟨w.heap.size + 1, i, none⟩) (Nat.le_succ _) v⟩
theorem fin (h : TSt w W c0 c1 c2 c3 X) (u0 u1 u2 u3 : Value) (x : Ins) :
    Loc (putX (put4 W (w.heap.size + 2) u0 u1 u2 u3) (w.heap.size + 3) x) (w.heap.size + 2) #[u0, u1, u2, u3] 95 ∧ Loc (putX (put4 W (w.heap.size + 2) u0 u1 u2 u3) (w.heap.size + 3) x) (w.heap.size + 3) (insCells x) 59 ∧
      Below w.heap.size w (putX (put4 W (w.heap.size + 2) u0 u1 u2 u3) (w.heap.size + 3) x) := by
  obtain ⟨_, _, _, _, r, b⟩ := h.rr.put4 h.b (by omega) u0 u1 u2 u3
  exact ⟨putX_other r (by omega) x, putX_loc (loc_put4o h.xx (by omega) _ _ _ _) x, putX_below b (by omega) x⟩
end TSt

/-- What taken answers. -/
def RTaken (A : Option Addr) (n c : Nat) (q : (Rdr × Ins) × Int) (w : World) (e : Ending) (w' : World) : Prop :=
  ∃ st, e = .returned (.tuple #[.agg (rvC A n c q.1.1.pos q.1.1.err st), .agg (insCells q.1.2), .int .i64 q.2]) ∧ Below w.heap.size w w'


set_option maxRecDepth 100000 in
set_option maxHeartbeats 4000000 in
theorem taken_65 (A : Option Addr) (c : Nat) (s : Rdr) (st : Int) (x : Ins) (w : World) (hr : Row w A (cellsB s.xs)) (hp : s.pos ≤ s.xs.length) (hl : s.xs.length ≤ 140737488355328) (hz : A = none → s.xs.length = 0) :
    Calls Try.prog 97 #[.agg (rvC A s.xs.length c s.pos s.err st), .agg (insCells x), .int .u8 65] w (RTaken A s.xs.length c (takenM s x 65) w) := by
  have hby := fun W (h : Below w.heap.size w W) => rtbyte_any A c s st W (hr.of_below h (Nat.le_refl _)) hp hl
  have hm : takenM s x 65 = ((s.byte.2, { x with a := (s.byte.1 : Int) }), s.byte.2.err) := rfl
  rw [hm]
  obtain ⟨m, q, hq⟩ : ∃ m q, s.byte = (m, q) := ⟨_, _, rfl⟩
  have hlt := rbyte_lt s
  rw [hq] at hby hlt ⊢
  simp only at hlt
  obtain ⟨N, hN⟩ : ∃ N, N = s.xs.length := ⟨_, rfl⟩
  obtain ⟨xs, p, e0⟩ := s
  simp only at hby hN ⊢
  rw [← hN] at hby ⊢
  obtain ⟨op, xa, xb, xc, xn, xv⟩ := x
  obtain ⟨qxs, qp, qe⟩ := q
  have HBY := Lib.hid hby
  clear hby hr hp hl hz hm hq hN
  unfold rvC at *
  unfold insCells
  go_enter Try.func97, Try.ntmps97
  have T0 := TSt.new w (.slice A N c) (.int .i64 p) (.int .i64 e0) (.int .i64 st) #[.int .i64 op, .int .i64 xa, .int .i64 xb, .int .i64 xc, .int .i64 xn, .int .i64 xv.kind, .int .i64 xv.num, .string xv.text]
  go_wp2_with fail
  refine (HBY.out _ T0.b).mono ?_; rintro e w1 ⟨st2, rfl, hb⟩
  unfold rvC
  have T1 := T0.below hb
  clear T0 hb HBY
  obtain ⟨r0, r1, r2, r3, rf0, rf1, rf2, rf3⟩ := T1.r.four
  obtain ⟨z0, z1, z2, z3, zf0, zf1, zf2, zf3⟩ := T1.rr.four
  obtain ⟨x0, x1, x2, x3, x4, x5, x6, x7⟩ := loc_eight T1.x
  obtain ⟨y0, y1, y2, y3, y4, y5, y6, y7⟩ := loc_eight T1.xx
  obtain ⟨xf0, xf1, xf2, xf3, xf4, xf5, xf6, xf7⟩ := free_eight T1.x
  obtain ⟨yf0, yf1, yf2, yf3, yf4, yf5, yf6, yf7⟩ := free_eight T1.xx

  have T3 := (T1.putR (.slice A N c) (.int .i64 qp) (.int .i64 qe) (.int .i64 st2)).setX 1 (.int .i64 (m : Int))
  simp only [List.setIfInBounds_toArray, List.set_cons_succ, List.set_cons_zero] at T3
  unfold put4 at T3
  obtain ⟨gr, gx, gb⟩ := T3.fin (.slice A N c) (.int .i64 qp) (.int .i64 qe) (.int .i64 st2) ⟨op, (m : Int), xb, xc, xn, xv⟩
  unfold put4 putX at gr gx gb
  obtain ⟨g0, g1, g2, g3, _⟩ := gr.four
  simp only [insCells] at gx
  obtain ⟨k0, k1, k2, k3, k4, k5, k6, k7⟩ := loc_eight gx
  have HG := Lib.hid (And.intro g0 (And.intro g1 (And.intro g2 (And.intro g3 (And.intro k0 (And.intro k1 (And.intro k2 (And.intro k3 (And.intro k4 (And.intro k5 (And.intro k6 k7)))))))))))
  have GB := Lib.hid gb
  clear g0 g1 g2 g3 k0 k1 k2 k3 k4 k5 k6 k7 gr gx gb
  go_wp2
  go_region
  all_goals
    go_wp2
    obtain ⟨g0, g1, g2, g3, k0, k1, k2, k3, k4, k5, k6, k7⟩ := HG.out
    refine bodyPost_ret (v := .tuple #[.agg #[.slice A N c, .int .i64 qp, .int .i64 qe, .int .i64 st2], .agg #[.int .i64 op, .int .i64 (m : Int), .int .i64 xb, .int .i64 xc, .int .i64 xn, .int .i64 xv.kind, .int .i64 xv.num, .string xv.text], .int .i64 qe]) (by simp [results, Try.results97, go_sem, g0, g1, g2, g3, k0, k1, k2, k3, k4, k5, k6, k7]) rfl ?_
    exact ⟨st2, rfl, GB.out.drew⟩

set_option maxRecDepth 100000 in
set_option maxHeartbeats 4000000 in
theorem taken_66 (A : Option Addr) (c : Nat) (s : Rdr) (st : Int) (x : Ins) (w : World) (hr : Row w A (cellsB s.xs)) (hp : s.pos ≤ s.xs.length) (hl : s.xs.length ≤ 140737488355328) (hz : A = none → s.xs.length = 0) :
    Calls Try.prog 97 #[.agg (rvC A s.xs.length c s.pos s.err st), .agg (insCells x), .int .u8 66] w (RTaken A s.xs.length c (takenM s x 66) w) := by
  have hby := fun W (h : Below w.heap.size w W) => rtbyte_any A c s st W (hr.of_below h (Nat.le_refl _)) hp hl
  have hm : takenM s x 66 = ((s.byte.2, { x with b := (s.byte.1 : Int) }), s.byte.2.err) := rfl
  rw [hm]
  obtain ⟨m, q, hq⟩ : ∃ m q, s.byte = (m, q) := ⟨_, _, rfl⟩
  have hlt := rbyte_lt s
  rw [hq] at hby hlt ⊢
  simp only at hlt
  obtain ⟨N, hN⟩ : ∃ N, N = s.xs.length := ⟨_, rfl⟩
  obtain ⟨xs, p, e0⟩ := s
  simp only at hby hN ⊢
  rw [← hN] at hby ⊢
  obtain ⟨op, xa, xb, xc, xn, xv⟩ := x
  obtain ⟨qxs, qp, qe⟩ := q
  have HBY := Lib.hid hby
  clear hby hr hp hl hz hm hq hN
  unfold rvC at *
  unfold insCells
  go_enter Try.func97, Try.ntmps97
  have T0 := TSt.new w (.slice A N c) (.int .i64 p) (.int .i64 e0) (.int .i64 st) #[.int .i64 op, .int .i64 xa, .int .i64 xb, .int .i64 xc, .int .i64 xn, .int .i64 xv.kind, .int .i64 xv.num, .string xv.text]
  go_wp2_with fail
  refine (HBY.out _ T0.b).mono ?_; rintro e w1 ⟨st2, rfl, hb⟩
  unfold rvC
  have T1 := T0.below hb
  clear T0 hb HBY
  obtain ⟨r0, r1, r2, r3, rf0, rf1, rf2, rf3⟩ := T1.r.four
  obtain ⟨z0, z1, z2, z3, zf0, zf1, zf2, zf3⟩ := T1.rr.four
  obtain ⟨x0, x1, x2, x3, x4, x5, x6, x7⟩ := loc_eight T1.x
  obtain ⟨y0, y1, y2, y3, y4, y5, y6, y7⟩ := loc_eight T1.xx
  obtain ⟨xf0, xf1, xf2, xf3, xf4, xf5, xf6, xf7⟩ := free_eight T1.x
  obtain ⟨yf0, yf1, yf2, yf3, yf4, yf5, yf6, yf7⟩ := free_eight T1.xx

  have T3 := (T1.putR (.slice A N c) (.int .i64 qp) (.int .i64 qe) (.int .i64 st2)).setX 2 (.int .i64 (m : Int))
  simp only [List.setIfInBounds_toArray, List.set_cons_succ, List.set_cons_zero] at T3
  unfold put4 at T3
  obtain ⟨gr, gx, gb⟩ := T3.fin (.slice A N c) (.int .i64 qp) (.int .i64 qe) (.int .i64 st2) ⟨op, xa, (m : Int), xc, xn, xv⟩
  unfold put4 putX at gr gx gb
  obtain ⟨g0, g1, g2, g3, _⟩ := gr.four
  simp only [insCells] at gx
  obtain ⟨k0, k1, k2, k3, k4, k5, k6, k7⟩ := loc_eight gx
  have HG := Lib.hid (And.intro g0 (And.intro g1 (And.intro g2 (And.intro g3 (And.intro k0 (And.intro k1 (And.intro k2 (And.intro k3 (And.intro k4 (And.intro k5 (And.intro k6 k7)))))))))))
  have GB := Lib.hid gb
  clear g0 g1 g2 g3 k0 k1 k2 k3 k4 k5 k6 k7 gr gx gb
  go_wp2
  go_region
  all_goals
    go_wp2
    obtain ⟨g0, g1, g2, g3, k0, k1, k2, k3, k4, k5, k6, k7⟩ := HG.out
    refine bodyPost_ret (v := .tuple #[.agg #[.slice A N c, .int .i64 qp, .int .i64 qe, .int .i64 st2], .agg #[.int .i64 op, .int .i64 xa, .int .i64 (m : Int), .int .i64 xc, .int .i64 xn, .int .i64 xv.kind, .int .i64 xv.num, .string xv.text], .int .i64 qe]) (by simp [results, Try.results97, go_sem, g0, g1, g2, g3, k0, k1, k2, k3, k4, k5, k6, k7]) rfl ?_
    exact ⟨st2, rfl, GB.out.drew⟩

set_option maxRecDepth 100000 in
set_option maxHeartbeats 4000000 in
theorem taken_67 (A : Option Addr) (c : Nat) (s : Rdr) (st : Int) (x : Ins) (w : World) (hr : Row w A (cellsB s.xs)) (hp : s.pos ≤ s.xs.length) (hl : s.xs.length ≤ 140737488355328) (hz : A = none → s.xs.length = 0) :
    Calls Try.prog 97 #[.agg (rvC A s.xs.length c s.pos s.err st), .agg (insCells x), .int .u8 67] w (RTaken A s.xs.length c (takenM s x 67) w) := by
  have hby := fun W (h : Below w.heap.size w W) => rtbyte_any A c s st W (hr.of_below h (Nat.le_refl _)) hp hl
  have hm : takenM s x 67 = ((s.byte.2, { x with c := (s.byte.1 : Int) }), s.byte.2.err) := rfl
  rw [hm]
  obtain ⟨m, q, hq⟩ : ∃ m q, s.byte = (m, q) := ⟨_, _, rfl⟩
  have hlt := rbyte_lt s
  rw [hq] at hby hlt ⊢
  simp only at hlt
  obtain ⟨N, hN⟩ : ∃ N, N = s.xs.length := ⟨_, rfl⟩
  obtain ⟨xs, p, e0⟩ := s
  simp only at hby hN ⊢
  rw [← hN] at hby ⊢
  obtain ⟨op, xa, xb, xc, xn, xv⟩ := x
  obtain ⟨qxs, qp, qe⟩ := q
  have HBY := Lib.hid hby
  clear hby hr hp hl hz hm hq hN
  unfold rvC at *
  unfold insCells
  go_enter Try.func97, Try.ntmps97
  have T0 := TSt.new w (.slice A N c) (.int .i64 p) (.int .i64 e0) (.int .i64 st) #[.int .i64 op, .int .i64 xa, .int .i64 xb, .int .i64 xc, .int .i64 xn, .int .i64 xv.kind, .int .i64 xv.num, .string xv.text]
  go_wp2_with fail
  refine (HBY.out _ T0.b).mono ?_; rintro e w1 ⟨st2, rfl, hb⟩
  unfold rvC
  have T1 := T0.below hb
  clear T0 hb HBY
  obtain ⟨r0, r1, r2, r3, rf0, rf1, rf2, rf3⟩ := T1.r.four
  obtain ⟨z0, z1, z2, z3, zf0, zf1, zf2, zf3⟩ := T1.rr.four
  obtain ⟨x0, x1, x2, x3, x4, x5, x6, x7⟩ := loc_eight T1.x
  obtain ⟨y0, y1, y2, y3, y4, y5, y6, y7⟩ := loc_eight T1.xx
  obtain ⟨xf0, xf1, xf2, xf3, xf4, xf5, xf6, xf7⟩ := free_eight T1.x
  obtain ⟨yf0, yf1, yf2, yf3, yf4, yf5, yf6, yf7⟩ := free_eight T1.xx

  have T3 := (T1.putR (.slice A N c) (.int .i64 qp) (.int .i64 qe) (.int .i64 st2)).setX 3 (.int .i64 (m : Int))
  simp only [List.setIfInBounds_toArray, List.set_cons_succ, List.set_cons_zero] at T3
  unfold put4 at T3
  obtain ⟨gr, gx, gb⟩ := T3.fin (.slice A N c) (.int .i64 qp) (.int .i64 qe) (.int .i64 st2) ⟨op, xa, xb, (m : Int), xn, xv⟩
  unfold put4 putX at gr gx gb
  obtain ⟨g0, g1, g2, g3, _⟩ := gr.four
  simp only [insCells] at gx
  obtain ⟨k0, k1, k2, k3, k4, k5, k6, k7⟩ := loc_eight gx
  have HG := Lib.hid (And.intro g0 (And.intro g1 (And.intro g2 (And.intro g3 (And.intro k0 (And.intro k1 (And.intro k2 (And.intro k3 (And.intro k4 (And.intro k5 (And.intro k6 k7)))))))))))
  have GB := Lib.hid gb
  clear g0 g1 g2 g3 k0 k1 k2 k3 k4 k5 k6 k7 gr gx gb
  go_wp2
  go_region
  all_goals
    go_wp2
    obtain ⟨g0, g1, g2, g3, k0, k1, k2, k3, k4, k5, k6, k7⟩ := HG.out
    refine bodyPost_ret (v := .tuple #[.agg #[.slice A N c, .int .i64 qp, .int .i64 qe, .int .i64 st2], .agg #[.int .i64 op, .int .i64 xa, .int .i64 xb, .int .i64 (m : Int), .int .i64 xn, .int .i64 xv.kind, .int .i64 xv.num, .string xv.text], .int .i64 qe]) (by simp [results, Try.results97, go_sem, g0, g1, g2, g3, k0, k1, k2, k3, k4, k5, k6, k7]) rfl ?_
    exact ⟨st2, rfl, GB.out.drew⟩

set_option maxRecDepth 100000 in
set_option maxHeartbeats 4000000 in
theorem taken_97 (A : Option Addr) (c : Nat) (s : Rdr) (st : Int) (x : Ins) (w : World) (hr : Row w A (cellsB s.xs)) (hp : s.pos ≤ s.xs.length) (hl : s.xs.length ≤ 140737488355328) (hz : A = none → s.xs.length = 0) :
    Calls Try.prog 97 #[.agg (rvC A s.xs.length c s.pos s.err st), .agg (insCells x), .int .u8 97] w (RTaken A s.xs.length c (takenM s x 97) w) := by
  have hby := fun W (h : Below w.heap.size w W) => rtnumber_any A c s st W (hr.of_below h (Nat.le_refl _)) hp hl hz
  have hm : takenM s x 97 = ((s.number.2, { x with a := s.number.1 }), s.number.2.err) := rfl
  rw [hm]
  obtain ⟨m, q, hq⟩ : ∃ m q, s.number = (m, q) := ⟨_, _, rfl⟩
  have hlt := number_nonneg s
  rw [hq] at hby hlt ⊢
  simp only at hlt
  obtain ⟨N, hN⟩ : ∃ N, N = s.xs.length := ⟨_, rfl⟩
  obtain ⟨xs, p, e0⟩ := s
  simp only at hby hN ⊢
  rw [← hN] at hby ⊢
  obtain ⟨op, xa, xb, xc, xn, xv⟩ := x
  obtain ⟨qxs, qp, qe⟩ := q
  have HBY := Lib.hid hby
  clear hby hr hp hl hz hm hq hN
  unfold rvC at *
  unfold insCells
  go_enter Try.func97, Try.ntmps97
  have T0 := TSt.new w (.slice A N c) (.int .i64 p) (.int .i64 e0) (.int .i64 st) #[.int .i64 op, .int .i64 xa, .int .i64 xb, .int .i64 xc, .int .i64 xn, .int .i64 xv.kind, .int .i64 xv.num, .string xv.text]
  go_wp2_with fail
  refine (HBY.out _ T0.b).mono ?_; rintro e w1 ⟨st2, rfl, hb⟩
  unfold rvC
  have T1 := T0.below hb
  clear T0 hb HBY
  obtain ⟨r0, r1, r2, r3, rf0, rf1, rf2, rf3⟩ := T1.r.four
  obtain ⟨z0, z1, z2, z3, zf0, zf1, zf2, zf3⟩ := T1.rr.four
  obtain ⟨x0, x1, x2, x3, x4, x5, x6, x7⟩ := loc_eight T1.x
  obtain ⟨y0, y1, y2, y3, y4, y5, y6, y7⟩ := loc_eight T1.xx
  obtain ⟨xf0, xf1, xf2, xf3, xf4, xf5, xf6, xf7⟩ := free_eight T1.x
  obtain ⟨yf0, yf1, yf2, yf3, yf4, yf5, yf6, yf7⟩ := free_eight T1.xx

  have T3 := (T1.setX 1 (.int .i64 m)).putR (.slice A N c) (.int .i64 qp) (.int .i64 qe) (.int .i64 st2)
  simp only [List.setIfInBounds_toArray, List.set_cons_succ, List.set_cons_zero] at T3
  unfold put4 at T3
  obtain ⟨gr, gx, gb⟩ := T3.fin (.slice A N c) (.int .i64 qp) (.int .i64 qe) (.int .i64 st2) ⟨op, m, xb, xc, xn, xv⟩
  unfold put4 putX at gr gx gb
  obtain ⟨g0, g1, g2, g3, _⟩ := gr.four
  simp only [insCells] at gx
  obtain ⟨k0, k1, k2, k3, k4, k5, k6, k7⟩ := loc_eight gx
  have HG := Lib.hid (And.intro g0 (And.intro g1 (And.intro g2 (And.intro g3 (And.intro k0 (And.intro k1 (And.intro k2 (And.intro k3 (And.intro k4 (And.intro k5 (And.intro k6 k7)))))))))))
  have GB := Lib.hid gb
  clear g0 g1 g2 g3 k0 k1 k2 k3 k4 k5 k6 k7 gr gx gb
  go_wp2
  go_region
  all_goals
    go_wp2
    obtain ⟨g0, g1, g2, g3, k0, k1, k2, k3, k4, k5, k6, k7⟩ := HG.out
    refine bodyPost_ret (v := .tuple #[.agg #[.slice A N c, .int .i64 qp, .int .i64 qe, .int .i64 st2], .agg #[.int .i64 op, .int .i64 m, .int .i64 xb, .int .i64 xc, .int .i64 xn, .int .i64 xv.kind, .int .i64 xv.num, .string xv.text], .int .i64 qe]) (by simp [results, Try.results97, go_sem, g0, g1, g2, g3, k0, k1, k2, k3, k4, k5, k6, k7]) rfl ?_
    exact ⟨st2, rfl, GB.out.drew⟩

set_option maxRecDepth 100000 in
set_option maxHeartbeats 4000000 in
theorem taken_78 (A : Option Addr) (c : Nat) (s : Rdr) (st : Int) (x : Ins) (w : World) (hr : Row w A (cellsB s.xs)) (hp : s.pos ≤ s.xs.length) (hl : s.xs.length ≤ 140737488355328) (hz : A = none → s.xs.length = 0) :
    Calls Try.prog 97 #[.agg (rvC A s.xs.length c s.pos s.err st), .agg (insCells x), .int .u8 78] w (RTaken A s.xs.length c (takenM s x 78) w) := by
  have hby := fun W (h : Below w.heap.size w W) => rtnumber_any A c s st W (hr.of_below h (Nat.le_refl _)) hp hl hz
  have hm : takenM s x 78 = ((s.number.2, { x with n := s.number.1 }), s.number.2.err) := rfl
  rw [hm]
  obtain ⟨m, q, hq⟩ : ∃ m q, s.number = (m, q) := ⟨_, _, rfl⟩
  have hlt := number_nonneg s
  rw [hq] at hby hlt ⊢
  simp only at hlt
  obtain ⟨N, hN⟩ : ∃ N, N = s.xs.length := ⟨_, rfl⟩
  obtain ⟨xs, p, e0⟩ := s
  simp only at hby hN ⊢
  rw [← hN] at hby ⊢
  obtain ⟨op, xa, xb, xc, xn, xv⟩ := x
  obtain ⟨qxs, qp, qe⟩ := q
  have HBY := Lib.hid hby
  clear hby hr hp hl hz hm hq hN
  unfold rvC at *
  unfold insCells
  go_enter Try.func97, Try.ntmps97
  have T0 := TSt.new w (.slice A N c) (.int .i64 p) (.int .i64 e0) (.int .i64 st) #[.int .i64 op, .int .i64 xa, .int .i64 xb, .int .i64 xc, .int .i64 xn, .int .i64 xv.kind, .int .i64 xv.num, .string xv.text]
  go_wp2_with fail
  refine (HBY.out _ T0.b).mono ?_; rintro e w1 ⟨st2, rfl, hb⟩
  unfold rvC
  have T1 := T0.below hb
  clear T0 hb HBY
  obtain ⟨r0, r1, r2, r3, rf0, rf1, rf2, rf3⟩ := T1.r.four
  obtain ⟨z0, z1, z2, z3, zf0, zf1, zf2, zf3⟩ := T1.rr.four
  obtain ⟨x0, x1, x2, x3, x4, x5, x6, x7⟩ := loc_eight T1.x
  obtain ⟨y0, y1, y2, y3, y4, y5, y6, y7⟩ := loc_eight T1.xx
  obtain ⟨xf0, xf1, xf2, xf3, xf4, xf5, xf6, xf7⟩ := free_eight T1.x
  obtain ⟨yf0, yf1, yf2, yf3, yf4, yf5, yf6, yf7⟩ := free_eight T1.xx

  have T3 := (T1.setX 4 (.int .i64 m)).putR (.slice A N c) (.int .i64 qp) (.int .i64 qe) (.int .i64 st2)
  simp only [List.setIfInBounds_toArray, List.set_cons_succ, List.set_cons_zero] at T3
  unfold put4 at T3
  obtain ⟨gr, gx, gb⟩ := T3.fin (.slice A N c) (.int .i64 qp) (.int .i64 qe) (.int .i64 st2) ⟨op, xa, xb, xc, m, xv⟩
  unfold put4 putX at gr gx gb
  obtain ⟨g0, g1, g2, g3, _⟩ := gr.four
  simp only [insCells] at gx
  obtain ⟨k0, k1, k2, k3, k4, k5, k6, k7⟩ := loc_eight gx
  have HG := Lib.hid (And.intro g0 (And.intro g1 (And.intro g2 (And.intro g3 (And.intro k0 (And.intro k1 (And.intro k2 (And.intro k3 (And.intro k4 (And.intro k5 (And.intro k6 k7)))))))))))
  have GB := Lib.hid gb
  clear g0 g1 g2 g3 k0 k1 k2 k3 k4 k5 k6 k7 gr gx gb
  go_wp2
  go_region
  all_goals
    go_wp2
    obtain ⟨g0, g1, g2, g3, k0, k1, k2, k3, k4, k5, k6, k7⟩ := HG.out
    refine bodyPost_ret (v := .tuple #[.agg #[.slice A N c, .int .i64 qp, .int .i64 qe, .int .i64 st2], .agg #[.int .i64 op, .int .i64 xa, .int .i64 xb, .int .i64 xc, .int .i64 m, .int .i64 xv.kind, .int .i64 xv.num, .string xv.text], .int .i64 qe]) (by simp [results, Try.results97, go_sem, g0, g1, g2, g3, k0, k1, k2, k3, k4, k5, k6, k7]) rfl ?_
    exact ⟨st2, rfl, GB.out.drew⟩

set_option maxRecDepth 100000 in
set_option maxHeartbeats 4000000 in
theorem taken_86 (A : Option Addr) (c : Nat) (s : Rdr) (st : Int) (x : Ins) (w : World) (hr : Row w A (cellsB s.xs)) (hp : s.pos ≤ s.xs.length) (hl : s.xs.length ≤ 140737488355328) (hz : A = none → s.xs.length = 0) (hcap : s.xs.length ≤ c) :
    Calls Try.prog 97 #[.agg (rvC A s.xs.length c s.pos s.err st), .agg (insCells x), .int .u8 86] w (RTaken A s.xs.length c (takenM s x 86) w) := by
  have hby := fun W (h : Below w.heap.size w W) => rttext_any A c s st (s.xs.length : Int) (by omega) (by omega) W (hr.of_below h (Nat.le_refl _)) hp hl hz hcap
  have hm : takenM s x 86 = if (s.text s.xs.length).2.err = 0 then (((s.text s.xs.length).2, { x with v := (datumDecode (s.text s.xs.length).1).1 }), (datumDecode (s.text s.xs.length).1).2) else (((s.text s.xs.length).2, x), (s.text s.xs.length).2.err) := rfl
  have hml := text_len s (s.xs.length : Int)
  obtain ⟨m, q, hq⟩ : ∃ m q, s.text (s.xs.length : Int) = (m, q) := ⟨_, _, rfl⟩
  rw [hq] at hby hm hml
  obtain ⟨TT, hTT⟩ : ∃ TT, TT = takenM s x 86 := ⟨_, rfl⟩
  rw [← hTT] at hm ⊢
  simp only at hml
  obtain ⟨N, hN⟩ : ∃ N, N = s.xs.length := ⟨_, rfl⟩
  obtain ⟨xs, p, e0⟩ := s
  simp only at hby hN hml hm ⊢
  rw [← hN] at hby hml hl ⊢
  obtain ⟨V, ve, hdd⟩ : ∃ V ve, datumDecode m = (V, ve) := ⟨_, _, rfl⟩
  have hde := fun g W (h : Row W (some ⟨g, 0, none⟩) (cellsB m)) c' (hc' : m.length ≤ c') => rddec_any (some ⟨g, 0, none⟩) c' m W h (by omega) (fun h => by cases h) hc'
  rw [hdd] at hde hm
  obtain ⟨op, xa, xb, xc, xn, xv⟩ := x
  obtain ⟨qxs, qp, qe⟩ := q
  have hsz : (ofBs m).size = m.length := by rw [← size_data, ofBs_data]
  have HDE := Lib.hid hde
  have HM := Lib.hid hm
  have HSZ := Lib.hid hsz
  have HBY := Lib.hid hby
  clear hby hr hp hz hm hq hN hdd hde hsz hcap hTT
  unfold rvC at *
  unfold insCells
  go_enter Try.func97, Try.ntmps97
  have T0 := TSt.new w (.slice A N c) (.int .i64 p) (.int .i64 e0) (.int .i64 st) #[.int .i64 op, .int .i64 xa, .int .i64 xb, .int .i64 xc, .int .i64 xn, .int .i64 xv.kind, .int .i64 xv.num, .string xv.text]
  go_wp2_with fail
  refine (HBY.out _ T0.b).mono ?_; rintro e w1 ⟨st2, rfl, hb⟩
  unfold rvC
  have T1 := T0.below hb
  clear T0 hb HBY
  obtain ⟨r0, r1, r2, r3, rf0, rf1, rf2, rf3⟩ := T1.r.four
  obtain ⟨z0, z1, z2, z3, zf0, zf1, zf2, zf3⟩ := T1.rr.four
  obtain ⟨x0, x1, x2, x3, x4, x5, x6, x7⟩ := loc_eight T1.x
  obtain ⟨y0, y1, y2, y3, y4, y5, y6, y7⟩ := loc_eight T1.xx
  obtain ⟨xf0, xf1, xf2, xf3, xf4, xf5, xf6, xf7⟩ := free_eight T1.x
  obtain ⟨yf0, yf1, yf2, yf3, yf4, yf5, yf6, yf7⟩ := free_eight T1.xx
  have T2 := T1.putR (.slice A N c) (.int .i64 qp) (.int .i64 qe) (.int .i64 st2)
  unfold put4 at T2
  by_cases hq0 : qe = 0
  · subst hq0
    go_upto_if 72 with (fail)
    obtain ⟨w2, hw2⟩ : ∃ w2, w2 = (((w1.setCell ⟨w.heap.size, 0, none⟩ (.slice A N c)).setCell ⟨w.heap.size, 1, none⟩ (.int .i64 qp)).setCell ⟨w.heap.size, 2, none⟩ (.int .i64 0)).setCell ⟨w.heap.size, 3, none⟩ (.int .i64 st2) := ⟨_, rfl⟩
    rw [← hw2] at T2 ⊢
    clear hw2 r0 r1 r2 r3 rf0 rf1 rf2 rf3 z0 z1 z2 z3 zf0 zf1 zf2 zf3 x0 x1 x2 x3 x4 x5 x6 x7 y0 y1 y2 y3 y4 y5 y6 y7 xf0 xf1 xf2 xf3 xf4 xf5 xf6 xf7 yf0 yf1 yf2 yf3 yf4 yf5 yf6 yf7 T1
    obtain ⟨r0, r1, r2, r3, _⟩ := T2.r.four
    have htb := run_toBytes (P := Try.prog) 9 39 5 (ofBs m) Try.underlying9 Try.underlying39 Try.underlying5
    have hrs := (Row.str w2 (ofBs m) (grownCap w2 (ofBs m).size 0 5) 5)
    rw [show (ofBs m).data.toList = m from ofBs_data m] at hrs
    have hgc := grownCap_ge w2 (ofBs m).size 0 5
    have hb3 := ((Below.refl w2.heap.size w2).alloc (Nat.le_refl _) (strObj (ofBs m) (grownCap w2 (ofBs m).size 0 5) 5)).drew
    have HSR := Lib.hid hrs
    have hdz := fun W h c' hc' => HDE.out w2.heap.size W h c' hc'
    rw [← HSZ.out] at hdz
    have HDZ := Lib.hid hdz
    clear hrs hdz HDE
    go_wp2_with fail
    refine (HDZ.out _ HSR.out.drew _ hgc).mono ?_; rintro e w3 ⟨rfl, hb⟩
    have T3 := (T2.below hb3).below hb
    have T4 := ((T3.setX 5 (.int .i64 V.kind)).setX 6 (.int .i64 V.num)).setX 7 (.string V.text)
    simp only [List.setIfInBounds_toArray, List.set_cons_succ, List.set_cons_zero] at T4
    have h1 := T3.xx.lt
    have h2 := T3.x.lt
    have h3 := T3.rr.lt
    have h4 := T3.r.lt
    clear hb hb3 T2 r0 r1 r2 r3 htb
    obtain ⟨r0, r1, r2, r3, rf0, rf1, rf2, rf3⟩ := T3.r.four
    obtain ⟨z0, z1, z2, z3, zf0, zf1, zf2, zf3⟩ := T3.rr.four
    obtain ⟨x0, x1, x2, x3, x4, x5, x6, x7⟩ := loc_eight T3.x
    obtain ⟨y0, y1, y2, y3, y4, y5, y6, y7⟩ := loc_eight T3.xx
    obtain ⟨xf0, xf1, xf2, xf3, xf4, xf5, xf6, xf7⟩ := free_eight T3.x
    obtain ⟨yf0, yf1, yf2, yf3, yf4, yf5, yf6, yf7⟩ := free_eight T3.xx
    unfold valCells
    obtain ⟨vk, vn, vt⟩ := V
    simp only at T4 ⊢
    obtain ⟨gr, gx, gb⟩ := T4.fin (.slice A N c) (.int .i64 qp) (.int .i64 0) (.int .i64 st2) ⟨op, xa, xb, xc, xn, ⟨vk, vn, vt⟩⟩
    unfold put4 putX at gr gx gb
    have gr := gr.alloc (.cells #[.int .i64 vk, .int .i64 vn, .string vt] 57)
    have gx := gx.alloc (.cells #[.int .i64 vk, .int .i64 vn, .string vt] 57)
    have gb := gb.alloc gb.size (.cells #[.int .i64 vk, .int .i64 vn, .string vt] 57)
    obtain ⟨g0, g1, g2, g3, _⟩ := gr.four
    simp only [insCells] at gx
    obtain ⟨k0, k1, k2, k3, k4, k5, k6, k7⟩ := loc_eight gx
    have HG := Lib.hid (And.intro g0 (And.intro g1 (And.intro g2 (And.intro g3 (And.intro k0 (And.intro k1 (And.intro k2 (And.intro k3 (And.intro k4 (And.intro k5 (And.intro k6 k7)))))))))))
    have GB := Lib.hid gb
    clear g0 g1 g2 g3 k0 k1 k2 k3 k4 k5 k6 k7 gr gx gb
    go_wp2
    go_region
    all_goals
      go_wp2
      obtain ⟨g0, g1, g2, g3, k0, k1, k2, k3, k4, k5, k6, k7⟩ := HG.out
      refine bodyPost_ret (v := .tuple #[.agg #[.slice A N c, .int .i64 qp, .int .i64 0, .int .i64 st2], .agg #[.int .i64 op, .int .i64 xa, .int .i64 xb, .int .i64 xc, .int .i64 xn, .int .i64 vk, .int .i64 vn, .string vt], .int .i64 ve]) (by simp [results, Try.results97, go_sem, g0, g1, g2, g3, k0, k1, k2, k3, k4, k5, k6, k7]) rfl ?_
      rw [show TT = ((⟨qxs, qp, 0⟩, ⟨op, xa, xb, xc, xn, ⟨vk, vn, vt⟩⟩), ve) from by rw [HM.out]; simp]
      exact ⟨st2, rfl, GB.out.drew⟩
  · have hq1 : (qe == 0) = false := by simpa using hq0
    clear T1
    have HQ0 := Lib.hid hq0
    clear hq0
    obtain ⟨gr, gx, gb⟩ := T2.fin (.slice A N c) (.int .i64 qp) (.int .i64 qe) (.int .i64 st2) ⟨op, xa, xb, xc, xn, xv⟩
    unfold put4 putX at gr gx gb
    obtain ⟨g0, g1, g2, g3, _⟩ := gr.four
    simp only [insCells] at gx
    obtain ⟨k0, k1, k2, k3, k4, k5, k6, k7⟩ := loc_eight gx
    have HG := Lib.hid (And.intro g0 (And.intro g1 (And.intro g2 (And.intro g3 (And.intro k0 (And.intro k1 (And.intro k2 (And.intro k3 (And.intro k4 (And.intro k5 (And.intro k6 k7)))))))))))
    have GB := Lib.hid gb
    clear g0 g1 g2 g3 k0 k1 k2 k3 k4 k5 k6 k7 gr gx gb
    go_wp2
    go_region
    all_goals
      go_wp2
      obtain ⟨g0, g1, g2, g3, k0, k1, k2, k3, k4, k5, k6, k7⟩ := HG.out
      refine bodyPost_ret (v := .tuple #[.agg #[.slice A N c, .int .i64 qp, .int .i64 qe, .int .i64 st2], .agg #[.int .i64 op, .int .i64 xa, .int .i64 xb, .int .i64 xc, .int .i64 xn, .int .i64 xv.kind, .int .i64 xv.num, .string xv.text], .int .i64 qe]) (by simp [results, Try.results97, go_sem, g0, g1, g2, g3, k0, k1, k2, k3, k4, k5, k6, k7]) rfl ?_
      rw [show TT = ((⟨qxs, qp, qe⟩, ⟨op, xa, xb, xc, xn, xv⟩), qe) from by rw [HM.out]; exact if_neg HQ0.out]
      exact ⟨st2, rfl, GB.out.drew⟩
end Go.Proofs.Ytnmcdifkknphgaa
