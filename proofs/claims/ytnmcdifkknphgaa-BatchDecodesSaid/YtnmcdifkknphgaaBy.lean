/- Walk of treadleref12.taken: a transaction, read. -/
import Derived.Test.YtnmcdifkknphgaaBr
import Derived.Test.YtnmcdifkknphgaaRefL
namespace Go.Proofs.Ytnmcdifkknphgaa
open Go.RowKit

/-- What taken answers. -/
def RTx (A : Option Addr) (n c : Nat) (q : (Txn × Rdr) × Int) (w : World) (e : Ending) (w' : World) : Prop :=
  ∃ (T : TxnC) (R : Rdr) (st : Int), e = .returned (.tuple #[.agg T.cells, .agg (rvC A n c R.pos R.err st), .int .i64 q.2]) ∧ Below w.heap.size w w' ∧ (q.2 = 0 → T.t = q.1.1 ∧ T.own w' w.heap.size ∧ R = q.1.2)

theorem RTx.mk {A : Option Addr} {n c : Nat} {q : (Txn × Rdr) × Int} {w w' : World} {E st : Int} {cs ds : Array Value} (T : TxnC) (R : Rdr) (h : q.2 = E) (hc : cs = T.cells) (hd : ds = rvC A n c R.pos R.err st) (hb : Below w.heap.size w w') (hy : E = 0 → T.t = q.1.1 ∧ T.own w' w.heap.size ∧ R = q.1.2) :
    RTx A n c q w (.returned (.tuple #[.agg cs, .agg ds, .int .i64 E])) w' := by
  subst h hc hd
  exact ⟨T, R, st, rfl, hb, hy⟩

theorem text_N (A : Option Addr) (N c : Nat) (q : Rdr) (st most : Int) (hN : q.xs.length = N) (hm0 : -9223372036854775808 ≤ most) (hm1 : most ≤ 9223372036854775807) (w : World) (hr : Row w A (cellsB q.xs)) (hp : q.pos ≤ N) (hl : N ≤ 140737488355328) (hz : A = none → N = 0) (hcap : N ≤ c) :
    Calls Try.prog 74 #[.agg (rvC A N c q.pos q.err st), .int .i64 most] w (RTk A N c (.string (ofBs (q.text most).1)) (q.text most).2 w) := by
  subst hN
  exact rttext_any A c q st most hm0 hm1 w hr hp hl hz hcap
theorem number_N (A : Option Addr) (N c : Nat) (q : Rdr) (st : Int) (hN : q.xs.length = N) (w : World) (hr : Row w A (cellsB q.xs)) (hp : q.pos ≤ N) (hl : N ≤ 140737488355328) (hz : A = none → N = 0) :
    Calls Try.prog 41 #[.agg (rvC A N c q.pos q.err st)] w (RTk A N c (.int .i64 q.number.1) q.number.2 w) := by
  subst hN
  exact rtnumber_any A c q st w hr hp hl hz
theorem byte_N (A : Option Addr) (N c : Nat) (q : Rdr) (st : Int) (hN : q.xs.length = N) (w : World) (hr : Row w A (cellsB q.xs)) (hp : q.pos ≤ N) (hl : N ≤ 140737488355328) :
    Calls Try.prog 73 #[.agg (rvC A N c q.pos q.err st)] w (RTk A N c (.int .u8 (q.byte.1 : Int)) q.byte.2 w) := by
  subst hN
  exact rtbyte_any A c q st w hr hp hl
theorem end_N (A : Option Addr) (N c : Nat) (q : Rdr) (st : Int) (hN : q.xs.length = N) (w : World) (hp : q.pos ≤ N) (hl : N ≤ 140737488355328) :
    Calls Try.prog 43 #[.agg (rvC A N c q.pos q.err st)] w fun e w' => e = .returned (.int .i64 q.end_) ∧ Below w.heap.size w w' := by
  subst hN
  exact rtend_any A c q st w hp hl

theorem loc_put6o {w : World} {b b' : Nat} {c : Array Value} {t : TypeId} (h : Loc w b' c t) (hne : b' ≠ b) (u0 u1 u2 u3 u4 u5 : Value) : Loc (put6 w b u0 u1 u2 u3 u4 u5) b' c t :=
  (((((h.other (a := ⟨b, 0, none⟩) hne _).other (a := ⟨b, 1, none⟩) hne _).other (a := ⟨b, 2, none⟩) hne _).other (a := ⟨b, 3, none⟩) hne _).other (a := ⟨b, 4, none⟩) hne _).other (a := ⟨b, 5, none⟩) hne _
theorem below_put6 {B : Nat} {a w : World} {b : Nat} (h : Below B a w) (hb : B ≤ b) (u0 u1 u2 u3 u4 u5 : Value) : Below B a (put6 w b u0 u1 u2 u3 u4 u5) :=
  (((((h.setCell (p := ⟨b, 0, none⟩) hb _).setCell (p := ⟨b, 1, none⟩) hb _).setCell (p := ⟨b, 2, none⟩) hb _).setCell (p := ⟨b, 3, none⟩) hb _).setCell (p := ⟨b, 4, none⟩) hb _).setCell (p := ⟨b, 5, none⟩) hb _

theorem TxnC.own.put4 {W : World} {base : Nat} {x : TxnC} {b : Nat} {v0 v1 v2 v3 : Value} (h : x.own W base) (hl : Loc W b #[v0, v1, v2, v3] 95) (u0 u1 u2 u3 : Value) : x.own (put4 W b u0 u1 u2 u3) base := by
  have l0 := hl.set 0 u0
  have l1 := l0.set 1 u1
  have l2 := l1.set 2 u2
  exact (((h.set hl (by decide) (by decide) 0 u0).set l0 (by decide) (by decide) 1 u1).set l1 (by decide) (by decide) 2 u2).set l2 (by decide) (by decide) 3 u3
theorem TxnC.own.put6 {W : World} {base : Nat} {x : TxnC} {b : Nat} {v0 v1 v2 v3 v4 v5 : Value} (h : x.own W base) (hl : Loc W b #[v0, v1, v2, v3, v4, v5] 30) (u0 u1 u2 u3 u4 u5 : Value) : x.own (put6 W b u0 u1 u2 u3 u4 u5) base := by
  have l0 := hl.set 0 u0
  have l1 := l0.set 1 u1
  have l2 := l1.set 2 u2
  have l3 := l2.set 3 u3
  have l4 := l3.set 4 u4
  exact (((((h.set hl (by decide) (by decide) 0 u0).set l0 (by decide) (by decide) 1 u1).set l1 (by decide) (by decide) 2 u2).set l2 (by decide) (by decide) 3 u3).set l3 (by decide) (by decide) 4 u4).set l4 (by decide) (by decide) 5 u5

theorem owns_put4 {W : World} {base size n : Nat} {e : TypeId} {v : Value} {xs : List Value} {b : Nat} {v0 v1 v2 v3 : Value} {t : TypeId} (h : W.ownsRow base e size v n xs) (hl : Loc W b #[v0, v1, v2, v3] t) (ht : e ≠ t) (u0 u1 u2 u3 : Value) : (put4 W b u0 u1 u2 u3).ownsRow base e size v n xs := by
  have hne := owns_ne h hl ht
  exact owns_setCell (owns_setCell (owns_setCell (owns_setCell h (a := ⟨b, 0, none⟩) hne _) (a := ⟨b, 1, none⟩) hne _) (a := ⟨b, 2, none⟩) hne _) (a := ⟨b, 3, none⟩) hne _

/-- The blocks of taken: the reader, the results of both. -/
structure JSt (w W : World) (c0 c1 c2 c3 : Value) : Prop where
  r : Loc W w.heap.size #[c0, c1, c2, c3] 95
  zt : Loc W (w.heap.size + 1) #[.int .i64 0, .string ⟨#[]⟩, .int .i64 0, .slice none 0 0, .string ⟨#[]⟩, .slice none 0 0] 30
  zr : Loc W (w.heap.size + 2) #[.slice none 0 0, .int .i64 0, .int .i64 0, .int .i64 0] 95
  b : Below w.heap.size w W

theorem JSt.new (w : World) (c0 c1 c2 c3 : Value) :
    JSt w (((w.alloc (.cells #[c0, c1, c2, c3] 95)).alloc (.cells #[.int .i64 0, .string ⟨#[]⟩, .int .i64 0, .slice none 0 0, .string ⟨#[]⟩, .slice none 0 0] 30)).alloc (.cells #[.slice none 0 0, .int .i64 0, .int .i64 0, .int .i64 0] 95)) c0 c1 c2 c3 := by
  have r := ((Loc.new w #[c0, c1, c2, c3] 95).alloc (.cells #[.int .i64 0, .string ⟨#[]⟩, .int .i64 0, .slice none 0 0, .string ⟨#[]⟩, .slice none 0 0] 30)).alloc (.cells #[.slice none 0 0, .int .i64 0, .int .i64 0, .int .i64 0] 95)
  have x := (Loc.new (w.alloc (.cells #[c0, c1, c2, c3] 95)) #[.int .i64 0, .string ⟨#[]⟩, .int .i64 0, .slice none 0 0, .string ⟨#[]⟩, .slice none 0 0] 30).alloc (.cells #[.slice none 0 0, .int .i64 0, .int .i64 0, .int .i64 0] 95)
  have rr := Loc.new ((w.alloc (.cells #[c0, c1, c2, c3] 95)).alloc (.cells #[.int .i64 0, .string ⟨#[]⟩, .int .i64 0, .slice none 0 0, .string ⟨#[]⟩, .slice none 0 0] 30)) #[.slice none 0 0, .int .i64 0, .int .i64 0, .int .i64 0] 95
  simp only [World.size_alloc] at x rr
  exact ⟨r, x, rr, (((Below.refl w.heap.size w).alloc (Nat.le_refl _) _).alloc (by simp) _).alloc (by simp; omega) _⟩

namespace JSt
variable {w W V : World} {c0 c1 c2 c3 : Value}
theorem below (h : JSt w W c0 c1 c2 c3) (hb : Below W.heap.size W V) : JSt w V c0 c1 c2 c3 :=
  ⟨h.r.below hb h.r.lt, h.zt.below hb h.zt.lt, h.zr.below hb h.zr.lt, below_then h.b hb h.b.size⟩
theorem putR (h : JSt w W c0 c1 c2 c3) (u0 u1 u2 u3 : Value) : JSt w (put4 W w.heap.size u0 u1 u2 u3) u0 u1 u2 u3 := by
  obtain ⟨_, _, _, _, r, b⟩ := h.r.put4 h.b (Nat.le_refl _) u0 u1 u2 u3
  exact ⟨r, loc_put4o h.zt (by omega) _ _ _ _, loc_put4o h.zr (by omega) _ _ _ _, b⟩
theorem set (h : JSt w W c0 c1 c2 c3) {xb : Nat} (hx : w.heap.size + 2 < xb) (i : Nat) (v : Value) : JSt w (W.setCell ⟨xb, i, none⟩ v) c0 c1 c2 c3 :=
  ⟨h.r.other (a := ⟨xb, i, none⟩) (show w.heap.size ≠ xb by omega) v, h.zt.other (a := ⟨xb, i, none⟩) (show w.heap.size + 1 ≠ xb by omega) v, h.zr.other (a := ⟨xb, i, none⟩) (show w.heap.size + 2 ≠ xb by omega) v, h.b.setCell (p := ⟨xb, i, none⟩) (show w.heap.size ≤ xb by omega) v⟩
theorem fin (h : JSt w W c0 c1 c2 c3) (v0 v1 v2 v3 v4 v5 u0 u1 u2 u3 : Value) :
    Loc (put4 (put6 W (w.heap.size + 1) v0 v1 v2 v3 v4 v5) (w.heap.size + 2) u0 u1 u2 u3) (w.heap.size + 1) #[v0, v1, v2, v3, v4, v5] 30 ∧ Loc (put4 (put6 W (w.heap.size + 1) v0 v1 v2 v3 v4 v5) (w.heap.size + 2) u0 u1 u2 u3) (w.heap.size + 2) #[u0, u1, u2, u3] 95 ∧
      Below w.heap.size w (put4 (put6 W (w.heap.size + 1) v0 v1 v2 v3 v4 v5) (w.heap.size + 2) u0 u1 u2 u3) := by
  obtain ⟨_, _, _, _, r, b⟩ := (loc_put6o h.zr (b := w.heap.size + 1) (by omega) v0 v1 v2 v3 v4 v5).put4 (below_put6 h.b (by omega) v0 v1 v2 v3 v4 v5) (by omega) u0 u1 u2 u3
  exact ⟨loc_put4o (loc_put6 h.zt v0 v1 v2 v3 v4 v5) (by omega) _ _ _ _, r, b⟩
theorem finOwn {x : TxnC} {base : Nat} (h : JSt w W c0 c1 c2 c3) (hx : x.own W base) (v0 v1 v2 v3 v4 v5 u0 u1 u2 u3 : Value) : x.own (put4 (put6 W (w.heap.size + 1) v0 v1 v2 v3 v4 v5) (w.heap.size + 2) u0 u1 u2 u3) base :=
  (hx.put6 h.zt v0 v1 v2 v3 v4 v5).put4 (loc_put6o h.zr (by omega) v0 v1 v2 v3 v4 v5) u0 u1 u2 u3
theorem grown {v : Value} {m base : Nat} {cs : List Value} (h : JSt w W c0 c1 c2 c3) (hown : W.ownsRow base 57 3 v m cs) (hg : W.grownBy V v.ownBlock) (hb : ∀ k, v.ownBlock = some k → w.heap.size ≤ k) : JSt w V c0 c1 c2 c3 :=
  ⟨h.r.grown hg (owns_ne hown h.r (by decide)), h.zt.grown hg (owns_ne hown h.zt (by decide)), h.zr.grown hg (owns_ne hown h.zr (by decide)), h.b.grown hg h.b.size hb⟩
end JSt

/-- The same with the transaction in work. -/
structure KSt (w W : World) (xb : Nat) (c0 c1 c2 c3 : Value) (X : Array Value) : Prop where
  j : JSt w W c0 c1 c2 c3
  x : Loc W xb X 30
  hx : w.heap.size + 2 < xb
namespace KSt
variable {w W V : World} {xb : Nat} {c0 c1 c2 c3 : Value} {X : Array Value}
theorem below (h : KSt w W xb c0 c1 c2 c3 X) (hb : Below W.heap.size W V) : KSt w V xb c0 c1 c2 c3 X := ⟨h.j.below hb, h.x.below hb h.x.lt, h.hx⟩
theorem alloc (h : KSt w W xb c0 c1 c2 c3 X) (o : Obj) : KSt w (W.alloc o) xb c0 c1 c2 c3 X := h.below ((Below.refl _ _).alloc (Nat.le_refl _) o)
theorem putR (h : KSt w W xb c0 c1 c2 c3 X) (u0 u1 u2 u3 : Value) : KSt w (put4 W w.heap.size u0 u1 u2 u3) xb u0 u1 u2 u3 X := by
  have := h.hx
  exact ⟨h.j.putR u0 u1 u2 u3, loc_put4o h.x (by omega) _ _ _ _, h.hx⟩
theorem set (h : KSt w W xb c0 c1 c2 c3 X) (i : Nat) (v : Value) : KSt w (W.setCell ⟨xb, i, none⟩ v) xb c0 c1 c2 c3 (X.setIfInBounds i v) := ⟨h.j.set h.hx i v, h.x.set i v, h.hx⟩
theorem grown {v : Value} {m base : Nat} {cs : List Value} (h : KSt w W xb c0 c1 c2 c3 X) (hown : W.ownsRow base 57 3 v m cs) (hg : W.grownBy V v.ownBlock) (hb : ∀ k, v.ownBlock = some k → w.heap.size ≤ k) : KSt w V xb c0 c1 c2 c3 X :=
  ⟨h.j.grown hown hg hb, h.x.grown hg (owns_ne hown h.x (by decide)), h.hx⟩
end KSt


set_option maxRecDepth 100000 in
set_option maxHeartbeats 8000000 in
theorem btaken_any (A : Option Addr) (c : Nat) (s : Rdr) (st : Int) (w : World) (hr : Row w A (cellsB s.xs)) (hp : s.pos ≤ s.xs.length) (hl : s.xs.length ≤ 140737488355328) (hz : A = none → s.xs.length = 0) (hcap : s.xs.length ≤ c) :
    Calls Try.prog 42 #[.agg (rvC A s.xs.length c s.pos s.err st)] w (RTx A s.xs.length c (readTxn s.xs.length s) w) := by
  obtain ⟨xs, hxs⟩ : ∃ xs, xs = s.xs := ⟨_, rfl⟩
  obtain ⟨N, hN⟩ : ∃ N, N = s.xs.length := ⟨_, rfl⟩
  have ho := rbyte_lt s
  have x1 := byte_xs s
  have p1 := byte_pos hp
  obtain ⟨kN, s1, hks⟩ : ∃ k s1, s.byte = (k, s1) := ⟨_, _, rfl⟩
  have hrt := readTxn_eq (all := s.xs.length) hks
  have cb := fun W (h : Below w.heap.size w W) => byte_N A s.xs.length c s st rfl W (hr.of_below h (Nat.le_refl _)) hp hl
  rw [hks] at ho x1 p1 cb
  simp only at ho x1 p1 cb
  have ct := fun (q : Rdr) st most W (hx : q.xs = s.xs) (hq : q.pos ≤ s.xs.length) (hm0 : -9223372036854775808 ≤ most) (hm1 : most ≤ 9223372036854775807) (h : Below w.heap.size w W) => text_N A s.xs.length c q st most (by rw [hx]) hm0 hm1 W (by rw [hx]; exact hr.of_below h (Nat.le_refl _)) hq hl hz hcap
  have cn := fun (q : Rdr) st W (hx : q.xs = s.xs) (hq : q.pos ≤ s.xs.length) (h : Below w.heap.size w W) => number_N A s.xs.length c q st (by rw [hx]) W (by rw [hx]; exact hr.of_below h (Nat.le_refl _)) hq hl hz
  obtain ⟨k, hkk⟩ : ∃ k : Int, k = (kN : Int) := ⟨_, rfl⟩
  rw [← hkk] at hrt cb
  have hk0 : 0 ≤ k := by omega
  have hk1 : k < 256 := by omega
  obtain ⟨Q, hQ⟩ : ∃ Q, Q = readTxn s.xs.length s := ⟨_, rfl⟩
  rw [← hQ] at hrt ⊢
  obtain ⟨p, hpp⟩ : ∃ p, p = s.pos := ⟨_, rfl⟩
  obtain ⟨e0, hee⟩ : ∃ e0, e0 = s.err := ⟨_, rfl⟩
  rw [← hN, ← hpp, ← hee] at cb ⊢
  rw [← hN] at hrt p1 ct cn hl
  rw [← hxs] at x1 ct cn hN
  have HQ := Lib.hid hrt
  have CB := Lib.hid cb
  have CT := Lib.hid ct
  have CN := Lib.hid cn
  have X1 := Lib.hid x1
  have P1 := Lib.hid p1
  have HN := Lib.hid hN
  clear hr hp hz hcap hrt cb ct cn hks hQ hkk ho x1 p1 hpp hee hN hxs
  unfold rvC at *
  go_enter Try.func42, Try.ntmps42
  have J0 := JSt.new w (.slice A N c) (.int .i64 p) (.int .i64 e0) (.int .i64 st)
  go_wp2_with fail
  refine (CB.out _ J0.b).mono ?_; rintro e w1 ⟨st1, rfl, hb⟩
  unfold rvC
  have J1 := J0.below hb
  clear J0 hb CB

  obtain ⟨r0, r1, r2, r3, rf0, rf1, rf2, rf3⟩ := J1.r.four
  obtain ⟨z0, z1, z2, z3, zf0, zf1, zf2, zf3⟩ := J1.zr.four
  obtain ⟨y0, y1, y2, y3, y4, y5⟩ := loc_six J1.zt
  obtain ⟨yf0, yf1, yf2, yf3, yf4, yf5⟩ := free_six J1.zt
  have J2 := J1.putR (.slice A N c) (.int .i64 s1.pos) (.int .i64 s1.err) (.int .i64 st1)
  unfold put4 at J2
  by_cases he1 : s1.err = 0
  · have hq := HQ.out
    rw [if_neg (by simpa using he1)] at hq
    have HQ1 := Lib.hid hq
    have HE1 := Lib.hid he1
    have ht : (s1.err != 0) = false := by simp [he1]
    clear hq HQ he1
    go_upto_if 21 with (fail)
    obtain ⟨w2, hw2⟩ : ∃ w2, w2 = (((w1.setCell ⟨w.heap.size, 0, none⟩ (.slice A N c)).setCell ⟨w.heap.size, 1, none⟩ (.int .i64 s1.pos)).setCell ⟨w.heap.size, 2, none⟩ (.int .i64 s1.err)).setCell ⟨w.heap.size, 3, none⟩ (.int .i64 st1) := ⟨_, rfl⟩
    rw [← hw2] at J2 ⊢
    clear hw2 J1 r0 r1 r2 r3 rf0 rf1 rf2 rf3 z0 z1 z2 z3 zf0 zf1 zf2 zf3 y0 y1 y2 y3 y4 y5 yf0 yf1 yf2 yf3 yf4 yf5
    have K0 : KSt w (w2.alloc (.cells #[.int .i64 k, .string ⟨#[]⟩, .int .i64 0, .slice none 0 0, .string ⟨#[]⟩, .slice none 0 0] 30)) w2.heap.size (.slice A N c) (.int .i64 s1.pos) (.int .i64 s1.err) (.int .i64 st1) #[.int .i64 k, .string ⟨#[]⟩, .int .i64 0, .slice none 0 0, .string ⟨#[]⟩, .slice none 0 0] :=
      ⟨J2.below ((Below.refl _ _).alloc (Nat.le_refl _) _), Loc.new _ _ _, J2.zr.lt⟩
    have lt2 := J2.zr.lt
    have n1 : ¬ w2.heap.size = w.heap.size := by omega
    have n2 : ¬ w.heap.size = w2.heap.size := by omega
    have n3 : ¬ w2.heap.size = w.heap.size + 1 := by omega
    have n4 : ¬ w.heap.size + 1 = w2.heap.size := by omega
    have n5 : ¬ w2.heap.size = w.heap.size + 2 := by omega
    have n6 : ¬ w.heap.size + 2 = w2.heap.size := by omega
    obtain ⟨r0, r1, r2, r3, rf0, rf1, rf2, rf3⟩ := J2.r.four
    obtain ⟨z0, z1, z2, z3, zf0, zf1, zf2, zf3⟩ := J2.zr.four
    obtain ⟨y0, y1, y2, y3, y4, y5⟩ := loc_six J2.zt
    obtain ⟨yf0, yf1, yf2, yf3, yf4, yf5⟩ := free_six J2.zt
    by_cases k1 : k = 1
    · subst k1
      obtain ⟨m, q, htx⟩ : ∃ m q, s1.text N = (m, q) := ⟨_, _, rfl⟩
      have ctx := fun W h => CT.out s1 st1 N W X1.out P1.out (by omega) (by omega) h
      rw [htx] at ctx
      have hml := text_len s1 (N : Int)
      rw [htx, X1.out, ← HN.out] at hml
      simp only at hml
      obtain ⟨P, pe, hpd⟩ : ∃ P pe, procDecode m = (P, pe) := ⟨_, _, rfl⟩
      have hq := HQ1.out
      unfold readTxnRest at hq
      rw [if_pos rfl, htx] at hq
      simp only at hq
      rw [hpd] at hq
      simp only at hq
      have hde := fun g W (h : Row W (some ⟨g, 0, none⟩) (cellsB m)) c' (hc' : m.length ≤ c') => refDecode_any (some ⟨g, 0, none⟩) c' m W h (by omega) (fun h => by cases h) hc'
      have hsz : (ofBs m).size = m.length := by rw [← size_data, ofBs_data]
      have HPD := Lib.hid hpd
      have HDE := Lib.hid hde
      have HSZ := Lib.hid hsz
      have HQ2 := Lib.hid hq
      have HTX := Lib.hid ctx
      clear hq ctx htx HQ1 hpd hde hsz r0 r1 r2 r3 rf0 rf1 rf2 rf3 z0 z1 z2 z3 zf0 zf1 zf2 zf3 y0 y1 y2 y3 y4 y5 yf0 yf1 yf2 yf3 yf4 yf5
      obtain ⟨r0, r1, r2, r3, rf0, rf1, rf2, rf3⟩ := K0.j.r.four
      obtain ⟨z0, z1, z2, z3, zf0, zf1, zf2, zf3⟩ := K0.j.zr.four
      obtain ⟨y0, y1, y2, y3, y4, y5⟩ := loc_six K0.j.zt
      obtain ⟨yf0, yf1, yf2, yf3, yf4, yf5⟩ := free_six K0.j.zt
      obtain ⟨x0, x1, x2, x3, x4, x5⟩ := loc_six K0.x
      obtain ⟨xf0, xf1, xf2, xf3, xf4, xf5⟩ := free_six K0.x
      go_wp2_with fail
      refine (HTX.out _ K0.j.b).mono ?_; rintro e w3 ⟨st2, rfl, hb⟩
      unfold rvC
      have K1 := K0.below hb
      clear r0 r1 r2 r3 rf0 rf1 rf2 rf3 z0 z1 z2 z3 zf0 zf1 zf2 zf3 y0 y1 y2 y3 y4 y5 yf0 yf1 yf2 yf3 yf4 yf5 x0 x1 x2 x3 x4 x5 xf0 xf1 xf2 xf3 xf4 xf5
      obtain ⟨r0, r1, r2, r3, rf0, rf1, rf2, rf3⟩ := K1.j.r.four
      obtain ⟨z0, z1, z2, z3, zf0, zf1, zf2, zf3⟩ := K1.j.zr.four
      obtain ⟨y0, y1, y2, y3, y4, y5⟩ := loc_six K1.j.zt
      obtain ⟨yf0, yf1, yf2, yf3, yf4, yf5⟩ := free_six K1.j.zt
      obtain ⟨x0, x1, x2, x3, x4, x5⟩ := loc_six K1.x
      obtain ⟨xf0, xf1, xf2, xf3, xf4, xf5⟩ := free_six K1.x
      have K2 := K1.putR (.slice A N c) (.int .i64 q.pos) (.int .i64 q.err) (.int .i64 st2)
      unfold put4 at K2
      by_cases hqe : q.err = 0
      · have hq := HQ2.out
        rw [if_neg (by simpa using hqe)] at hq
        have HQ3 := Lib.hid hq
        have ht : (q.err != 0) = false := by simp [hqe]
        clear hq HQ2 hqe
        go_upto_if 42 with (fail)
        obtain ⟨w4, hw4⟩ : ∃ w4, w4 = (((w3.setCell ⟨w.heap.size, 0, none⟩ (.slice A N c)).setCell ⟨w.heap.size, 1, none⟩ (.int .i64 q.pos)).setCell ⟨w.heap.size, 2, none⟩ (.int .i64 q.err)).setCell ⟨w.heap.size, 3, none⟩ (.int .i64 st2) := ⟨_, rfl⟩
        rw [← hw4] at K2 ⊢
        clear hw4 K0 K1 hb r0 r1 r2 r3 rf0 rf1 rf2 rf3 z0 z1 z2 z3 zf0 zf1 zf2 zf3 y0 y1 y2 y3 y4 y5 yf0 yf1 yf2 yf3 yf4 yf5 x0 x1 x2 x3 x4 x5 xf0 xf1 xf2 xf3 xf4 xf5
        obtain ⟨r0, r1, r2, r3, _⟩ := K2.j.r.four
        have htb := run_toBytes (P := Try.prog) 9 39 5 (ofBs m) Try.underlying9 Try.underlying39 Try.underlying5
        have hrs := (Row.str w4 (ofBs m) (grownCap w4 (ofBs m).size 0 5) 5)
        rw [show (ofBs m).data.toList = m from ofBs_data m] at hrs
        have hgc := grownCap_ge w4 (ofBs m).size 0 5
        have hb4 := ((Below.refl w4.heap.size w4).alloc (Nat.le_refl _) (strObj (ofBs m) (grownCap w4 (ofBs m).size 0 5) 5)).drew
        have HSR := Lib.hid hrs
        have hdz := fun W h c' hc' => HDE.out w4.heap.size W h c' hc'
        rw [← HSZ.out] at hdz
        have HDZ := Lib.hid hdz
        clear hrs hdz HDE
        go_wp2_with fail
        refine (HDZ.out _ HSR.out.drew _ hgc).mono ?_; rintro e w5 ⟨A2, c2, rfl, own, hb⟩
        rw [HPD.out] at own ⊢
        simp only at own ⊢
        have K3 := (K2.below hb4).below hb
        have ho : TxnC.own w5 w.heap.size ⟨⟨1, P, emptyB, []⟩, none, 0, A2, c2⟩ := ⟨World.ownsRow_nil _ _ _ _, owns_mono own (by have := K2.j.b.size; simp; omega)⟩
        have K4 := ((K3.set 1 (.string P.name)).set 2 (.int .i64 P.args)).set 3 (.slice A2 P.code.length c2)
        have ho4 := ((ho.set K3.x (by decide) (by decide) 1 (.string P.name)).set (K3.set 1 (.string P.name)).x (by decide) (by decide) 2 (.int .i64 P.args)).set ((K3.set 1 (.string P.name)).set 2 (.int .i64 P.args)).x (by decide) (by decide) 3 (.slice A2 P.code.length c2)
        simp only [List.setIfInBounds_toArray, List.set_cons_succ, List.set_cons_zero] at K4
        have l1 := K3.x.lt
        have l2 := K3.j.zr.lt
        have l3 := K3.j.zt.lt
        have l4 := K3.j.r.lt
        unfold procCells
        clear hb hb4 K2 r0 r1 r2 r3 htb hgc own HSR HDZ ho
        obtain ⟨r0, r1, r2, r3, rf0, rf1, rf2, rf3⟩ := K3.j.r.four
        obtain ⟨z0, z1, z2, z3, zf0, zf1, zf2, zf3⟩ := K3.j.zr.four
        obtain ⟨y0, y1, y2, y3, y4, y5⟩ := loc_six K3.j.zt
        obtain ⟨yf0, yf1, yf2, yf3, yf4, yf5⟩ := free_six K3.j.zt
        obtain ⟨x0, x1, x2, x3, x4, x5⟩ := loc_six K3.x
        obtain ⟨xf0, xf1, xf2, xf3, xf4, xf5⟩ := free_six K3.x
        obtain ⟨gt, gr, gb⟩ := K4.j.fin (.int .i64 1) (.string P.name) (.int .i64 P.args) (.slice A2 P.code.length c2) (.string ⟨#[]⟩) (.slice none 0 0) (.slice A N c) (.int .i64 q.pos) (.int .i64 q.err) (.int .i64 st2)
        have go1 := K4.j.finOwn ho4 (.int .i64 1) (.string P.name) (.int .i64 P.args) (.slice A2 P.code.length c2) (.string ⟨#[]⟩) (.slice none 0 0) (.slice A N c) (.int .i64 q.pos) (.int .i64 q.err) (.int .i64 st2)
        unfold put6 put4 at go1
        unfold put6 put4 at gt gr gb
        have gt := gt.alloc (.cells #[.string P.name, .int .i64 P.args, .slice A2 P.code.length c2] 27)
        have gr := gr.alloc (.cells #[.string P.name, .int .i64 P.args, .slice A2 P.code.length c2] 27)
        have gb := gb.alloc gb.size (.cells #[.string P.name, .int .i64 P.args, .slice A2 P.code.length c2] 27)
        have go1 := go1.below ((Below.refl _ _).alloc (Nat.le_refl _) (.cells #[.string P.name, .int .i64 P.args, .slice A2 P.code.length c2] 27))
        obtain ⟨k0, k1, k2, k3, k4, k5⟩ := loc_six gt
        obtain ⟨g0, g1, g2, g3, _⟩ := gr.four
        have HG := Lib.hid (And.intro g0 (And.intro g1 (And.intro g2 (And.intro g3 (And.intro k0 (And.intro k1 (And.intro k2 (And.intro k3 (And.intro k4 k5)))))))))
        have GB := Lib.hid gb
        have GO := Lib.hid go1
        clear g0 g1 g2 g3 k0 k1 k2 k3 k4 k5 gt gr gb go1 
        go_wp2
        go_region
        all_goals
          go_wp2
          obtain ⟨g0, g1, g2, g3, k0, k1, k2, k3, k4, k5⟩ := HG.out
          refine bodyPost_ret (v := .tuple #[.agg #[.int .i64 1, .string P.name, .int .i64 P.args, .slice A2 P.code.length c2, .string ⟨#[]⟩, .slice none 0 0], .agg #[.slice A N c, .int .i64 q.pos, .int .i64 q.err, .int .i64 st2], .int .i64 pe]) (by simp [results, Try.results42, go_sem, g0, g1, g2, g3, k0, k1, k2, k3, k4, k5]) rfl ?_
          refine RTx.mk ⟨⟨1, P, emptyB, []⟩, none, 0, A2, c2⟩ q ?_ rfl rfl GB.out.drew (fun h => ?_)
          · rw [HQ3.out]; by_cases h : pe = 0
            · rw [if_neg (by simpa using h)]; exact h.symm
            · rw [if_pos h]
          · rw [HQ3.out, if_neg (by simpa using h)]
            exact ⟨rfl, GO.out.below ((Below.refl _ _).drew), rfl⟩
      · have hq := HQ2.out
        rw [if_pos hqe] at hq
        have HQ3 := Lib.hid hq
        have HE := Lib.hid hqe
        have ht : (q.err != 0) = true := by simpa using hqe
        clear hq HQ2 hqe
        go_upto_if 42 with (fail)
        obtain ⟨w4, hw4⟩ : ∃ w4, w4 = (((w3.setCell ⟨w.heap.size, 0, none⟩ (.slice A N c)).setCell ⟨w.heap.size, 1, none⟩ (.int .i64 q.pos)).setCell ⟨w.heap.size, 2, none⟩ (.int .i64 q.err)).setCell ⟨w.heap.size, 3, none⟩ (.int .i64 st2) := ⟨_, rfl⟩
        rw [← hw4] at K2 ⊢
        clear hw4 K0 K1 hb r0 r1 r2 r3 rf0 rf1 rf2 rf3 z0 z1 z2 z3 zf0 zf1 zf2 zf3 y0 y1 y2 y3 y4 y5 yf0 yf1 yf2 yf3 yf4 yf5 x0 x1 x2 x3 x4 x5 xf0 xf1 xf2 xf3 xf4 xf5
        obtain ⟨r0, r1, r2, r3, rf0, rf1, rf2, rf3⟩ := K2.j.r.four
        obtain ⟨z0, z1, z2, z3, zf0, zf1, zf2, zf3⟩ := K2.j.zr.four
        obtain ⟨y0, y1, y2, y3, y4, y5⟩ := loc_six K2.j.zt
        obtain ⟨yf0, yf1, yf2, yf3, yf4, yf5⟩ := free_six K2.j.zt
        obtain ⟨x0, x1, x2, x3, x4, x5⟩ := loc_six K2.x
        obtain ⟨xf0, xf1, xf2, xf3, xf4, xf5⟩ := free_six K2.x
        obtain ⟨gt, gr, gb⟩ := K2.j.fin (.int .i64 1) (.string ⟨#[]⟩) (.int .i64 0) (.slice none 0 0) (.string ⟨#[]⟩) (.slice none 0 0) (.slice A N c) (.int .i64 q.pos) (.int .i64 q.err) (.int .i64 st2)
        unfold put6 put4 at gt gr gb
        obtain ⟨k0, k1, k2, k3, k4, k5⟩ := loc_six gt
        obtain ⟨g0, g1, g2, g3, _⟩ := gr.four
        have HG := Lib.hid (And.intro g0 (And.intro g1 (And.intro g2 (And.intro g3 (And.intro k0 (And.intro k1 (And.intro k2 (And.intro k3 (And.intro k4 k5)))))))))
        have GB := Lib.hid gb
        clear g0 g1 g2 g3 k0 k1 k2 k3 k4 k5 gt gr gb  
        go_wp2
        go_region
        all_goals
          go_wp2
          obtain ⟨g0, g1, g2, g3, k0, k1, k2, k3, k4, k5⟩ := HG.out
          refine bodyPost_ret (v := .tuple #[.agg #[.int .i64 1, .string ⟨#[]⟩, .int .i64 0, .slice none 0 0, .string ⟨#[]⟩, .slice none 0 0], .agg #[.slice A N c, .int .i64 q.pos, .int .i64 q.err, .int .i64 st2], .int .i64 q.err]) (by simp [results, Try.results42, go_sem, g0, g1, g2, g3, k0, k1, k2, k3, k4, k5]) rfl ?_
          exact RTx.mk ⟨⟨1, .zero, emptyB, []⟩, none, 0, none, 0⟩ q (by rw [HQ3.out]) rfl rfl GB.out.drew (fun h => absurd h HE.out)
    · by_cases k3 : k = 3
      · subst k3
        obtain ⟨m, q, htx⟩ : ∃ m q, s1.text 32 = (m, q) := ⟨_, _, rfl⟩
        have ctx := fun W h => CT.out s1 st1 32 W X1.out P1.out (by omega) (by omega) h
        rw [htx] at ctx
        have hq := HQ1.out
        unfold readTxnRest at hq
        rw [if_neg (by decide), if_pos rfl, htx] at hq
        simp only at hq
        have HQ2 := Lib.hid hq
        have HTX := Lib.hid ctx
        clear hq ctx htx HQ1 k1 r0 r1 r2 r3 rf0 rf1 rf2 rf3 z0 z1 z2 z3 zf0 zf1 zf2 zf3 y0 y1 y2 y3 y4 y5 yf0 yf1 yf2 yf3 yf4 yf5
        obtain ⟨r0, r1, r2, r3, rf0, rf1, rf2, rf3⟩ := K0.j.r.four
        obtain ⟨z0, z1, z2, z3, zf0, zf1, zf2, zf3⟩ := K0.j.zr.four
        obtain ⟨y0, y1, y2, y3, y4, y5⟩ := loc_six K0.j.zt
        obtain ⟨yf0, yf1, yf2, yf3, yf4, yf5⟩ := free_six K0.j.zt
        obtain ⟨x0, x1, x2, x3, x4, x5⟩ := loc_six K0.x
        obtain ⟨xf0, xf1, xf2, xf3, xf4, xf5⟩ := free_six K0.x
        go_wp2_with fail
        refine (HTX.out _ K0.j.b).mono ?_; rintro e w3 ⟨st2, rfl, hb⟩
        unfold rvC
        have K1 := K0.below hb
        clear r0 r1 r2 r3 rf0 rf1 rf2 rf3 z0 z1 z2 z3 zf0 zf1 zf2 zf3 y0 y1 y2 y3 y4 y5 yf0 yf1 yf2 yf3 yf4 yf5 x0 x1 x2 x3 x4 x5 xf0 xf1 xf2 xf3 xf4 xf5
        obtain ⟨r0, r1, r2, r3, rf0, rf1, rf2, rf3⟩ := K1.j.r.four
        obtain ⟨z0, z1, z2, z3, zf0, zf1, zf2, zf3⟩ := K1.j.zr.four
        obtain ⟨y0, y1, y2, y3, y4, y5⟩ := loc_six K1.j.zt
        obtain ⟨yf0, yf1, yf2, yf3, yf4, yf5⟩ := free_six K1.j.zt
        obtain ⟨x0, x1, x2, x3, x4, x5⟩ := loc_six K1.x
        obtain ⟨xf0, xf1, xf2, xf3, xf4, xf5⟩ := free_six K1.x
        have K2 := (K1.set 4 (.string (ofBs m))).putR (.slice A N c) (.int .i64 q.pos) (.int .i64 q.err) (.int .i64 st2)
        simp only [List.setIfInBounds_toArray, List.set_cons_succ, List.set_cons_zero] at K2
        unfold put4 at K2
        go_upto_if 76 with (fail)
        obtain ⟨w4, hw4⟩ : ∃ w4, w4 = ((((w3.setCell ⟨w2.heap.size, 4, none⟩ (.string (ofBs m))).setCell ⟨w.heap.size, 0, none⟩ (.slice A N c)).setCell ⟨w.heap.size, 1, none⟩ (.int .i64 q.pos)).setCell ⟨w.heap.size, 2, none⟩ (.int .i64 q.err)).setCell ⟨w.heap.size, 3, none⟩ (.int .i64 st2) := ⟨_, rfl⟩
        rw [← hw4] at K2 ⊢
        clear hw4 K0 K1 hb r0 r1 r2 r3 rf0 rf1 rf2 rf3 z0 z1 z2 z3 zf0 zf1 zf2 zf3 y0 y1 y2 y3 y4 y5 yf0 yf1 yf2 yf3 yf4 yf5 x0 x1 x2 x3 x4 x5 xf0 xf1 xf2 xf3 xf4 xf5
        obtain ⟨r0, r1, r2, r3, rf0, rf1, rf2, rf3⟩ := K2.j.r.four
        obtain ⟨z0, z1, z2, z3, zf0, zf1, zf2, zf3⟩ := K2.j.zr.four
        obtain ⟨y0, y1, y2, y3, y4, y5⟩ := loc_six K2.j.zt
        obtain ⟨yf0, yf1, yf2, yf3, yf4, yf5⟩ := free_six K2.j.zt
        obtain ⟨x0, x1, x2, x3, x4, x5⟩ := loc_six K2.x
        obtain ⟨xf0, xf1, xf2, xf3, xf4, xf5⟩ := free_six K2.x
        obtain ⟨gt, gr, gb⟩ := K2.j.fin (.int .i64 3) (.string ⟨#[]⟩) (.int .i64 0) (.slice none 0 0) (.string (ofBs m)) (.slice none 0 0) (.slice A N c) (.int .i64 q.pos) (.int .i64 q.err) (.int .i64 st2)
        unfold put6 put4 at gt gr gb
        obtain ⟨k0, k1, k2, k3, k4, k5⟩ := loc_six gt
        obtain ⟨g0, g1, g2, g3, _⟩ := gr.four
        have HG := Lib.hid (And.intro g0 (And.intro g1 (And.intro g2 (And.intro g3 (And.intro k0 (And.intro k1 (And.intro k2 (And.intro k3 (And.intro k4 k5)))))))))
        have GB := Lib.hid gb
        clear g0 g1 g2 g3 k0 k1 k2 k3 k4 k5 gt gr gb  
        go_wp2
        go_region
        all_goals
          go_wp2
          obtain ⟨g0, g1, g2, g3, k0, k1, k2, k3, k4, k5⟩ := HG.out
          refine bodyPost_ret (v := .tuple #[.agg #[.int .i64 3, .string ⟨#[]⟩, .int .i64 0, .slice none 0 0, .string (ofBs m), .slice none 0 0], .agg #[.slice A N c, .int .i64 q.pos, .int .i64 q.err, .int .i64 st2], .int .i64 q.err]) (by simp [results, Try.results42, go_sem, g0, g1, g2, g3, k0, k1, k2, k3, k4, k5]) rfl ?_
          refine RTx.mk ⟨⟨3, .zero, ofBs m, []⟩, none, 0, none, 0⟩ q ?_ rfl rfl GB.out.drew (fun h => ?_)
          · rw [HQ2.out]; by_cases h : q.err = 0
            · rw [if_neg (by simpa using h)]; exact h.symm
            · rw [if_pos h]
          · rw [HQ2.out, if_neg (by simpa using h)]
            exact ⟨rfl, ⟨World.ownsRow_nil _ _ _ _, World.ownsRow_nil _ _ _ _⟩, rfl⟩
      · by_cases k2 : k = 2
        · subst k2
          obtain ⟨m, q, htx⟩ : ∃ m q, s1.text 32 = (m, q) := ⟨_, _, rfl⟩
          obtain ⟨nn, q1, hn⟩ : ∃ nn q1, q.number = (nn, q1) := ⟨_, _, rfl⟩
          have ctx := fun W h => CT.out s1 st1 32 W X1.out P1.out (by omega) (by omega) h
          rw [htx] at ctx
          have xq := text_xs s1 32
          have pq := text_pos (s := s1) 32 (by rw [X1.out, ← HN.out]; exact P1.out)
          rw [htx, X1.out] at xq
          rw [htx, X1.out, ← HN.out] at pq
          simp only at xq pq
          have cnx := fun st W h => CN.out q st W xq pq h
          have xq1 := number_xs q
          have pq1 := number_pos (s := q) (by rw [xq, ← HN.out]; exact pq)
          have hnz := number_nonneg q
          rw [hn] at cnx xq1 pq1 hnz
          rw [xq] at xq1 pq1
          rw [← HN.out] at pq1
          simp only at xq1 pq1 hnz
          have hq := HQ1.out
          unfold readTxnRest at hq
          rw [if_neg (by decide), if_neg (by decide), if_pos rfl, htx] at hq
          simp only at hq
          rw [hn] at hq
          simp only at hq
          have HQ2 := Lib.hid hq
          have HTX := Lib.hid ctx
          have HNU := Lib.hid cnx
          have XQ1 := Lib.hid xq1
          have PQ1 := Lib.hid pq1
          clear hq ctx htx HQ1 hn cnx xq pq xq1 pq1 r0 r1 r2 r3 rf0 rf1 rf2 rf3 z0 z1 z2 z3 zf0 zf1 zf2 zf3 y0 y1 y2 y3 y4 y5 yf0 yf1 yf2 yf3 yf4 yf5
          obtain ⟨r0, r1, r2, r3, rf0, rf1, rf2, rf3⟩ := K0.j.r.four
          obtain ⟨z0, z1, z2, z3, zf0, zf1, zf2, zf3⟩ := K0.j.zr.four
          obtain ⟨y0, y1, y2, y3, y4, y5⟩ := loc_six K0.j.zt
          obtain ⟨yf0, yf1, yf2, yf3, yf4, yf5⟩ := free_six K0.j.zt
          obtain ⟨x0, x1, x2, x3, x4, x5⟩ := loc_six K0.x
          obtain ⟨xf0, xf1, xf2, xf3, xf4, xf5⟩ := free_six K0.x
          go_wp2_with fail
          refine (HTX.out _ K0.j.b).mono ?_; rintro e w3 ⟨st2, rfl, hb⟩
          unfold rvC
          have K1 := K0.below hb
          clear r0 r1 r2 r3 rf0 rf1 rf2 rf3 z0 z1 z2 z3 zf0 zf1 zf2 zf3 y0 y1 y2 y3 y4 y5 yf0 yf1 yf2 yf3 yf4 yf5 x0 x1 x2 x3 x4 x5 xf0 xf1 xf2 xf3 xf4 xf5
          obtain ⟨r0, r1, r2, r3, rf0, rf1, rf2, rf3⟩ := K1.j.r.four
          obtain ⟨z0, z1, z2, z3, zf0, zf1, zf2, zf3⟩ := K1.j.zr.four
          obtain ⟨y0, y1, y2, y3, y4, y5⟩ := loc_six K1.j.zt
          obtain ⟨yf0, yf1, yf2, yf3, yf4, yf5⟩ := free_six K1.j.zt
          obtain ⟨x0, x1, x2, x3, x4, x5⟩ := loc_six K1.x
          obtain ⟨xf0, xf1, xf2, xf3, xf4, xf5⟩ := free_six K1.x
          have K2 := (K1.set 4 (.string (ofBs m))).putR (.slice A N c) (.int .i64 q.pos) (.int .i64 q.err) (.int .i64 st2)
          simp only [List.setIfInBounds_toArray, List.set_cons_succ, List.set_cons_zero] at K2
          unfold put4 at K2
          go_upto_if 76 with (fail)
          obtain ⟨w4, hw4⟩ : ∃ w4, w4 = ((((w3.setCell ⟨w2.heap.size, 4, none⟩ (.string (ofBs m))).setCell ⟨w.heap.size, 0, none⟩ (.slice A N c)).setCell ⟨w.heap.size, 1, none⟩ (.int .i64 q.pos)).setCell ⟨w.heap.size, 2, none⟩ (.int .i64 q.err)).setCell ⟨w.heap.size, 3, none⟩ (.int .i64 st2) := ⟨_, rfl⟩
          rw [← hw4] at K2 ⊢
          clear hw4 K0 K1 hb r0 r1 r2 r3 rf0 rf1 rf2 rf3 z0 z1 z2 z3 zf0 zf1 zf2 zf3 y0 y1 y2 y3 y4 y5 yf0 yf1 yf2 yf3 yf4 yf5 x0 x1 x2 x3 x4 x5 xf0 xf1 xf2 xf3 xf4 xf5
          obtain ⟨r0, r1, r2, r3, rf0, rf1, rf2, rf3⟩ := K2.j.r.four
          obtain ⟨z0, z1, z2, z3, zf0, zf1, zf2, zf3⟩ := K2.j.zr.four
          obtain ⟨y0, y1, y2, y3, y4, y5⟩ := loc_six K2.j.zt
          obtain ⟨yf0, yf1, yf2, yf3, yf4, yf5⟩ := free_six K2.j.zt
          obtain ⟨x0, x1, x2, x3, x4, x5⟩ := loc_six K2.x
          obtain ⟨xf0, xf1, xf2, xf3, xf4, xf5⟩ := free_six K2.x
          go_wp2_with fail
          refine (HNU.out st2 _ K2.j.b).mono ?_; rintro e w5 ⟨st3, rfl, hb⟩
          unfold rvC
          have K3 := K2.below hb
          clear r0 r1 r2 r3 rf0 rf1 rf2 rf3 z0 z1 z2 z3 zf0 zf1 zf2 zf3 y0 y1 y2 y3 y4 y5 yf0 yf1 yf2 yf3 yf4 yf5 x0 x1 x2 x3 x4 x5 xf0 xf1 xf2 xf3 xf4 xf5
          obtain ⟨r0, r1, r2, r3, rf0, rf1, rf2, rf3⟩ := K3.j.r.four
          obtain ⟨z0, z1, z2, z3, zf0, zf1, zf2, zf3⟩ := K3.j.zr.four
          obtain ⟨y0, y1, y2, y3, y4, y5⟩ := loc_six K3.j.zt
          obtain ⟨yf0, yf1, yf2, yf3, yf4, yf5⟩ := free_six K3.j.zt
          obtain ⟨x0, x1, x2, x3, x4, x5⟩ := loc_six K3.x
          obtain ⟨xf0, xf1, xf2, xf3, xf4, xf5⟩ := free_six K3.x
          have K4 := K3.putR (.slice A N c) (.int .i64 q1.pos) (.int .i64 q1.err) (.int .i64 st3)
          unfold put4 at K4
          by_cases hqe : q1.err = 0
          · have hq := HQ2.out
            rw [if_neg (by simpa using hqe)] at hq
            have HQ3 := Lib.hid hq
            have ht : (q1.err != 0) = false := by simp [hqe]
            clear hq HQ2 hqe
            go_upto_if 88 with (fail)
            obtain ⟨w6, hw6⟩ : ∃ w6, w6 = (((w5.setCell ⟨w.heap.size, 0, none⟩ (.slice A N c)).setCell ⟨w.heap.size, 1, none⟩ (.int .i64 q1.pos)).setCell ⟨w.heap.size, 2, none⟩ (.int .i64 q1.err)).setCell ⟨w.heap.size, 3, none⟩ (.int .i64 st3) := ⟨_, rfl⟩
            rw [← hw6] at K4 ⊢
            clear hw6 K2 K3 hb r0 r1 r2 r3 rf0 rf1 rf2 rf3 z0 z1 z2 z3 zf0 zf1 zf2 zf3 y0 y1 y2 y3 y4 y5 yf0 yf1 yf2 yf3 yf4 yf5 x0 x1 x2 x3 x4 x5 xf0 xf1 xf2 xf3 xf4 xf5
            by_cases h16 : 16 < nn
            · have hq := HQ3.out
              rw [if_pos h16] at hq
              have HQ4 := Lib.hid hq
              clear hq HQ3
              obtain ⟨r0, r1, r2, r3, rf0, rf1, rf2, rf3⟩ := K4.j.r.four
              obtain ⟨z0, z1, z2, z3, zf0, zf1, zf2, zf3⟩ := K4.j.zr.four
              obtain ⟨y0, y1, y2, y3, y4, y5⟩ := loc_six K4.j.zt
              obtain ⟨yf0, yf1, yf2, yf3, yf4, yf5⟩ := free_six K4.j.zt
              obtain ⟨x0, x1, x2, x3, x4, x5⟩ := loc_six K4.x
              obtain ⟨xf0, xf1, xf2, xf3, xf4, xf5⟩ := free_six K4.x
              obtain ⟨gt, gr, gb⟩ := K4.j.fin (.int .i64 2) (.string ⟨#[]⟩) (.int .i64 0) (.slice none 0 0) (.string (ofBs m)) (.slice none 0 0) (.slice A N c) (.int .i64 q1.pos) (.int .i64 q1.err) (.int .i64 st3)
              unfold put6 put4 at gt gr gb
              obtain ⟨k0, k1, k2, k3, k4, k5⟩ := loc_six gt
              obtain ⟨g0, g1, g2, g3, _⟩ := gr.four
              have HG := Lib.hid (And.intro g0 (And.intro g1 (And.intro g2 (And.intro g3 (And.intro k0 (And.intro k1 (And.intro k2 (And.intro k3 (And.intro k4 k5)))))))))
              have GB := Lib.hid gb
              clear g0 g1 g2 g3 k0 k1 k2 k3 k4 k5 gt gr gb  
              go_wp2
              go_region
              all_goals
                go_wp2
                obtain ⟨g0, g1, g2, g3, k0, k1, k2, k3, k4, k5⟩ := HG.out
                refine bodyPost_ret (v := .tuple #[.agg #[.int .i64 2, .string ⟨#[]⟩, .int .i64 0, .slice none 0 0, .string (ofBs m), .slice none 0 0], .agg #[.slice A N c, .int .i64 q1.pos, .int .i64 q1.err, .int .i64 st3], .int .i64 4]) (by simp [results, Try.results42, go_sem, g0, g1, g2, g3, k0, k1, k2, k3, k4, k5]) rfl ?_
                exact RTx.mk ⟨⟨2, .zero, ofBs m, []⟩, none, 0, none, 0⟩ q1 (by rw [HQ4.out]) rfl rfl GB.out.drew (fun h => absurd h (by decide))
            · obtain ⟨n, rfl⟩ := Int.eq_ofNat_of_zero_le hnz.1
              have hq := HQ3.out
              rw [if_neg h16, Int.toNat_natCast] at hq
              have HQ4 := Lib.hid hq
              have hn16 : n ≤ 16 := by omega
              clear hq HQ3 hnz
              go_wp2
              clear h16
              go_loopw [11] (fun i wr => ∃ (j : Nat) (q2 : Rdr) (l : List Val) (A2 : Option Addr) (c2 : Nat) (st4 : Int), j ≤ n ∧ i = .int .i64 j ∧ Hid (l.length = j) ∧ Hid (readVals N n q1 [] = readVals N (n - j) q2 l) ∧ Hid (q2.xs = xs) ∧ Hid (q2.pos ≤ N) ∧
                  KSt w wr w2.heap.size (.slice A N c) (.int .i64 q2.pos) (.int .i64 q2.err) (.int .i64 st4) #[.int .i64 2, .string ⟨#[]⟩, .int .i64 0, .slice none 0 0, .string (ofBs m), .slice A2 j c2] ∧ wr.ownsRow w.heap.size 57 3 (.slice A2 j c2) j (valsCells l)) (fun i _ => n - (intOf i).toNat)
              case atStart => exact ⟨0, q1, [], none, 0, st3, Nat.zero_le _, rfl, Lib.hid rfl, Lib.hid rfl, XQ1, PQ1, K4, World.ownsRow_nil _ _ _ _⟩
              case round =>
                obtain ⟨wo, rfl⟩ : ∃ wo, wo = wr := ⟨_, rfl⟩
                obtain ⟨j, q2, l, A2, c2, st4, hj, rfl, HL, HV, HX2, HP2, K5, own⟩ := hrel
                clear K4
                by_cases hjn : j < n
                · obtain ⟨f, hf⟩ : ∃ f, n - j = f + 1 := ⟨n - j - 1, by omega⟩
                  obtain ⟨u, q3, ht3⟩ : ∃ u q3, q2.text (N : Int) = (u, q3) := ⟨_, _, rfl⟩
                  have hul := text_len q2 (N : Int)
                  obtain ⟨v, ve, hve⟩ : ∃ v ve, datumDecode u = (v, ve) := ⟨_, _, rfl⟩
                  have hv := HV.out
                  rw [hf, readVals_step, ht3] at hv
                  simp only at hv
                  rw [hve] at hv
                  simp only at hv
                  have hf' : f = n - (j + 1) := by omega
                  have ctx := fun W h => CT.out q2 st4 N W HX2.out HP2.out (by omega) (by omega) h
                  have xq3 := text_xs q2 (N : Int)
                  have pq3 := text_pos (s := q2) (N : Int) (by rw [HX2.out, ← HN.out]; exact HP2.out)
                  rw [ht3] at ctx hul xq3 pq3
                  rw [HX2.out] at hul xq3 pq3
                  rw [← HN.out] at hul pq3
                  simp only at hul xq3 pq3
                  have hsz : (ofBs u).size = u.length := by rw [← size_data, ofBs_data]
                  have hde := fun g W (h : Row W (some ⟨g, 0, none⟩) (cellsB u)) c' (hc' : u.length ≤ c') => rddec_any (some ⟨g, 0, none⟩) c' u W h (by omega) (fun h => by cases h) hc'
                  rw [hve] at hde
                  have HTX := Lib.hid ctx
                  have HV2 := Lib.hid hv
                  have HSZ := Lib.hid hsz
                  have HF := Lib.hid hf'
                  have HDE := Lib.hid hde
                  have HX3 := Lib.hid xq3
                  have HP3 := Lib.hid pq3
                  have hjI : (j : Int) < (n : Int) := by omega
                  clear hv ctx ht3 hve hul hsz hf hf' HV hde xq3 pq3
                  obtain ⟨r0, r1, r2, r3, rf0, rf1, rf2, rf3⟩ := K5.j.r.four
                  obtain ⟨z0, z1, z2, z3, zf0, zf1, zf2, zf3⟩ := K5.j.zr.four
                  obtain ⟨y0, y1, y2, y3, y4, y5⟩ := loc_six K5.j.zt
                  obtain ⟨yf0, yf1, yf2, yf3, yf4, yf5⟩ := free_six K5.j.zt
                  obtain ⟨x0, x1, x2, x3, x4, x5⟩ := loc_six K5.x
                  obtain ⟨xf0, xf1, xf2, xf3, xf4, xf5⟩ := free_six K5.x
                  go_wp2_with fail
                  refine (HTX.out _ K5.j.b).mono ?_; rintro e w7 ⟨st5, rfl, hb⟩
                  unfold rvC
                  have K6 := K5.below hb
                  have own6 := owns_mono' own hb
                  have K7 := K6.putR (.slice A N c) (.int .i64 q3.pos) (.int .i64 q3.err) (.int .i64 st5)
                  have own7 := owns_put4 own6 K6.j.r (by decide) (.slice A N c) (.int .i64 q3.pos) (.int .i64 q3.err) (.int .i64 st5)
                  unfold put4 at K7 own7
                  clear r0 r1 r2 r3 rf0 rf1 rf2 rf3 z0 z1 z2 z3 zf0 zf1 zf2 zf3 y0 y1 y2 y3 y4 y5 yf0 yf1 yf2 yf3 yf4 yf5 x0 x1 x2 x3 x4 x5 xf0 xf1 xf2 xf3 xf4 xf5 K5 own hb HTX
                  obtain ⟨r0, r1, r2, r3, rf0, rf1, rf2, rf3⟩ := K6.j.r.four
                  obtain ⟨z0, z1, z2, z3, zf0, zf1, zf2, zf3⟩ := K6.j.zr.four
                  obtain ⟨y0, y1, y2, y3, y4, y5⟩ := loc_six K6.j.zt
                  obtain ⟨yf0, yf1, yf2, yf3, yf4, yf5⟩ := free_six K6.j.zt
                  obtain ⟨x0, x1, x2, x3, x4, x5⟩ := loc_six K6.x
                  obtain ⟨xf0, xf1, xf2, xf3, xf4, xf5⟩ := free_six K6.x
                  by_cases hqe : q3.err = 0
                  · have hv := HV2.out
                    rw [if_neg (by simpa using hqe)] at hv
                    have HV3 := Lib.hid hv
                    have ht : (q3.err != 0) = false := by simp [hqe]
                    clear hv HV2 hqe
                    go_upto_if 112 with (fail)
                    obtain ⟨w8, hw8⟩ : ∃ w8, w8 = (((w7.setCell ⟨w.heap.size, 0, none⟩ (.slice A N c)).setCell ⟨w.heap.size, 1, none⟩ (.int .i64 q3.pos)).setCell ⟨w.heap.size, 2, none⟩ (.int .i64 q3.err)).setCell ⟨w.heap.size, 3, none⟩ (.int .i64 st5) := ⟨_, rfl⟩
                    rw [← hw8] at K7 own7 ⊢
                    clear hw8 K6 own6 r0 r1 r2 r3 rf0 rf1 rf2 rf3 z0 z1 z2 z3 zf0 zf1 zf2 zf3 y0 y1 y2 y3 y4 y5 yf0 yf1 yf2 yf3 yf4 yf5 x0 x1 x2 x3 x4 x5 xf0 xf1 xf2 xf3 xf4 xf5
                    obtain ⟨r0, r1, r2, r3, _⟩ := K7.j.r.four
                    have htb := run_toBytes (P := Try.prog) 9 39 5 (ofBs u) Try.underlying9 Try.underlying39 Try.underlying5
                    have hrs := (Row.str w8 (ofBs u) (grownCap w8 (ofBs u).size 0 5) 5)
                    rw [show (ofBs u).data.toList = u from ofBs_data u] at hrs
                    have hgc := grownCap_ge w8 (ofBs u).size 0 5
                    have hb8 := ((Below.refl w8.heap.size w8).alloc (Nat.le_refl _) (strObj (ofBs u) (grownCap w8 (ofBs u).size 0 5) 5)).drew
                    have HSR := Lib.hid hrs
                    have hdz := fun W h c' hc' => HDE.out w8.heap.size W h c' hc'
                    rw [← HSZ.out] at hdz
                    have HDZ := Lib.hid hdz
                    clear hrs hdz HDE
                    go_wp2_with fail
                    refine (HDZ.out _ HSR.out.drew _ hgc).mono ?_; rintro e w9 ⟨rfl, hb⟩
                    have K8 := (K7.below hb8).below hb
                    have own8 := owns_mono' (owns_mono' own7 hb8) hb
                    have l1 := K8.x.lt
                    have l2 := K8.j.zr.lt
                    have l3 := K8.j.zt.lt
                    have l4 := K8.j.r.lt
                    obtain ⟨vk, vn, vt⟩ := v
                    unfold valCells
                    clear hb hb8 K7 own7 r0 r1 r2 r3 htb hgc HSR HDZ
                    obtain ⟨r0, r1, r2, r3, rf0, rf1, rf2, rf3⟩ := K8.j.r.four
                    obtain ⟨z0, z1, z2, z3, zf0, zf1, zf2, zf3⟩ := K8.j.zr.four
                    obtain ⟨y0, y1, y2, y3, y4, y5⟩ := loc_six K8.j.zt
                    obtain ⟨yf0, yf1, yf2, yf3, yf4, yf5⟩ := free_six K8.j.zt
                    obtain ⟨x0, x1, x2, x3, x4, x5⟩ := loc_six K8.x
                    obtain ⟨xf0, xf1, xf2, xf3, xf4, xf5⟩ := free_six K8.x
                    by_cases hve0 : ve = 0
                    · have hv := HV3.out
                      rw [if_neg (by simpa using hve0)] at hv
                      have HV4 := Lib.hid hv
                      subst hve0
                      clear hv HV3
                      have K9 := K8.alloc (.cells #[.int .i64 vk, .int .i64 vn, .string vt] 57)
                      have K10 := K9.alloc (.cells #[.int .i64 vk, .int .i64 vn, .string vt] 57)
                      have own9 := owns_mono' own8 ((Below.refl _ _).alloc (Nat.le_refl _) (.cells #[.int .i64 vk, .int .i64 vn, .string vt] 57))
                      have own10 := owns_mono' own9 ((Below.refl _ _).alloc (Nat.le_refl _) (.cells #[.int .i64 vk, .int .i64 vn, .string vt] 57))
                      have hsrc := Row.src (P := Try.prog) (c := 1) (size := 3) (n := 1) (tx := 28) (Row.of_loc (Loc.new (w9.alloc (.cells #[.int .i64 vk, .int .i64 vn, .string vt] 57)) #[.int .i64 vk, .int .i64 vn, .string vt] 57)) Try.underlying28 rfl (by simp [Value.oneCell']) (fun h => by simp at h)
                      simp only [World.size_alloc] at hsrc
                      have HSRC := Lib.hid hsrc
                      clear hsrc K9 own9 own8
                      go_wp2_with (at_builtin; refine wpList_append_mine _ rfl _ _ 28 28 rfl 57 (.agg #[.int .i64 0, .int .i64 0, .string ⟨#[]⟩]) 3 32 Try.underlying28 infoVal rfl (by decide) (.slice A2 j c2) j (valsCells l) rfl (owns_base (base' := 0) own10 (fun _ _ => Nat.zero_le _)) _ 1 _ rfl HSRC.out (by unfold maxLen; omega) (by omega) ?_; intro A3 c3 w11 hown hg hbl hx; have K11 := K10.grown own10 hg (fun k hk => (own10.lt k hk).1); have own11 := own_grown own10 hown hbl K10.j.b.size; clear hown hg hbl hx K10 own10 r0 r1 r2 r3 rf0 rf1 rf2 rf3 z0 z1 z2 z3 zf0 zf1 zf2 zf3 y0 y1 y2 y3 y4 y5 yf0 yf1 yf2 yf3 yf4 yf5 x0 x1 x2 x3 x4 x5 xf0 xf1 xf2 xf3 xf4 xf5; obtain ⟨x0, x1, x2, x3, x4, x5⟩ := loc_six K11.x; obtain ⟨xf0, xf1, xf2, xf3, xf4, xf5⟩ := free_six K11.x)
                      have K12 := K11.set 5 (.slice A3 (j + 1) c3)
                      simp only [List.setIfInBounds_toArray, List.set_cons_succ, List.set_cons_zero] at K12
                      have own12 := owns_setCell (a := ⟨w2.heap.size, 5, none⟩) own11 (owns_ne own11 K11.x (by decide)) (.slice A3 (j + 1) c3)
                      go_roundw
                      case rel =>
                        refine ⟨j + 1, q3, l ++ [⟨vk, vn, vt⟩], A3, c3, st5, by omega, by go_num, Lib.hid (by simp [HL.out]), Lib.hid (by rw [← HF.out]; exact HV4.out), HX3, HP3, K12, ?_⟩
                        have hvc : valsCells (l ++ [⟨vk, vn, vt⟩]) = valsCells l ++ [.int .i64 vk, .int .i64 vn, .string vt] := by simp [valsCells, valCells]
                        rw [hvc]
                        exact own12
                      case measure => simp [intOf]; omega
                    · have hv := HV3.out
                      rw [if_pos hve0] at hv
                      have hq := HQ4.out
                      rw [hv, if_pos hve0] at hq
                      have HQ5 := Lib.hid hq
                      have HE := Lib.hid hve0
                      have htv : (ve != 0) = true := by simpa using hve0
                      clear hv HV3 hve0 hq HQ4
                      obtain ⟨gt, gr, gb⟩ := K8.j.fin (.int .i64 2) (.string ⟨#[]⟩) (.int .i64 0) (.slice none 0 0) (.string (ofBs m)) (.slice A2 j c2) (.slice A N c) (.int .i64 q3.pos) (.int .i64 q3.err) (.int .i64 st5)
                      unfold put6 put4 at gt gr gb
                      have gt := gt.alloc (.cells #[.int .i64 vk, .int .i64 vn, .string vt] 57)
                      have gr := gr.alloc (.cells #[.int .i64 vk, .int .i64 vn, .string vt] 57)
                      have gb := gb.alloc gb.size (.cells #[.int .i64 vk, .int .i64 vn, .string vt] 57)
                      obtain ⟨k0, k1, k2, k3, k4, k5⟩ := loc_six gt
                      obtain ⟨g0, g1, g2, g3, _⟩ := gr.four
                      have HG := Lib.hid (And.intro g0 (And.intro g1 (And.intro g2 (And.intro g3 (And.intro k0 (And.intro k1 (And.intro k2 (And.intro k3 (And.intro k4 k5)))))))))
                      have GB := Lib.hid gb
                      clear g0 g1 g2 g3 k0 k1 k2 k3 k4 k5 gt gr gb  
                      go_wp2
                      go_region
                      all_goals
                        go_wp2
                        obtain ⟨g0, g1, g2, g3, k0, k1, k2, k3, k4, k5⟩ := HG.out
                        refine bodyPost_ret (v := .tuple #[.agg #[.int .i64 2, .string ⟨#[]⟩, .int .i64 0, .slice none 0 0, .string (ofBs m), .slice A2 j c2], .agg #[.slice A N c, .int .i64 q3.pos, .int .i64 q3.err, .int .i64 st5], .int .i64 ve]) (by simp [results, Try.results42, go_sem, g0, g1, g2, g3, k0, k1, k2, k3, k4, k5]) rfl ?_
                        exact RTx.mk ⟨⟨2, .zero, ofBs m, l⟩, A2, c2, none, 0⟩ q3 (by rw [HQ5.out]) (by unfold TxnC.cells; rw [HL.out]; rfl) rfl GB.out.drew (fun h => absurd h HE.out)
                  · have hv := HV2.out
                    rw [if_pos hqe] at hv
                    have hq := HQ4.out
                    rw [hv, if_pos hqe] at hq
                    have HQ5 := Lib.hid hq
                    have HE := Lib.hid hqe
                    have ht : (q3.err != 0) = true := by simpa using hqe
                    clear hv HV2 hqe hq HQ4
                    go_upto_if 112 with (fail)
                    obtain ⟨w8, hw8⟩ : ∃ w8, w8 = (((w7.setCell ⟨w.heap.size, 0, none⟩ (.slice A N c)).setCell ⟨w.heap.size, 1, none⟩ (.int .i64 q3.pos)).setCell ⟨w.heap.size, 2, none⟩ (.int .i64 q3.err)).setCell ⟨w.heap.size, 3, none⟩ (.int .i64 st5) := ⟨_, rfl⟩
                    rw [← hw8] at K7 own7 ⊢
                    clear hw8 K6 own6 r0 r1 r2 r3 rf0 rf1 rf2 rf3 z0 z1 z2 z3 zf0 zf1 zf2 zf3 y0 y1 y2 y3 y4 y5 yf0 yf1 yf2 yf3 yf4 yf5 x0 x1 x2 x3 x4 x5 xf0 xf1 xf2 xf3 xf4 xf5
                    obtain ⟨r0, r1, r2, r3, rf0, rf1, rf2, rf3⟩ := K7.j.r.four
                    obtain ⟨z0, z1, z2, z3, zf0, zf1, zf2, zf3⟩ := K7.j.zr.four
                    obtain ⟨y0, y1, y2, y3, y4, y5⟩ := loc_six K7.j.zt
                    obtain ⟨yf0, yf1, yf2, yf3, yf4, yf5⟩ := free_six K7.j.zt
                    obtain ⟨x0, x1, x2, x3, x4, x5⟩ := loc_six K7.x
                    obtain ⟨xf0, xf1, xf2, xf3, xf4, xf5⟩ := free_six K7.x
                    obtain ⟨gt, gr, gb⟩ := K7.j.fin (.int .i64 2) (.string ⟨#[]⟩) (.int .i64 0) (.slice none 0 0) (.string (ofBs m)) (.slice A2 j c2) (.slice A N c) (.int .i64 q3.pos) (.int .i64 q3.err) (.int .i64 st5)
                    unfold put6 put4 at gt gr gb
                    obtain ⟨k0, k1, k2, k3, k4, k5⟩ := loc_six gt
                    obtain ⟨g0, g1, g2, g3, _⟩ := gr.four
                    have HG := Lib.hid (And.intro g0 (And.intro g1 (And.intro g2 (And.intro g3 (And.intro k0 (And.intro k1 (And.intro k2 (And.intro k3 (And.intro k4 k5)))))))))
                    have GB := Lib.hid gb
                    clear g0 g1 g2 g3 k0 k1 k2 k3 k4 k5 gt gr gb  
                    go_wp2
                    go_region
                    all_goals
                      go_wp2
                      obtain ⟨g0, g1, g2, g3, k0, k1, k2, k3, k4, k5⟩ := HG.out
                      refine bodyPost_ret (v := .tuple #[.agg #[.int .i64 2, .string ⟨#[]⟩, .int .i64 0, .slice none 0 0, .string (ofBs m), .slice A2 j c2], .agg #[.slice A N c, .int .i64 q3.pos, .int .i64 q3.err, .int .i64 st5], .int .i64 q3.err]) (by simp [results, Try.results42, go_sem, g0, g1, g2, g3, k0, k1, k2, k3, k4, k5]) rfl ?_
                      exact RTx.mk ⟨⟨2, .zero, ofBs m, l⟩, A2, c2, none, 0⟩ q3 (by rw [HQ5.out]) (by unfold TxnC.cells; rw [HL.out]; rfl) rfl GB.out.drew (fun h => absurd h HE.out)
                · obtain rfl : j = n := by omega
                  have hv := HV.out
                  rw [Nat.sub_self, readVals] at hv
                  have hq := HQ4.out
                  rw [hv, if_neg (by simp)] at hq
                  have HQ5 := Lib.hid hq
                  have ho : TxnC.own wo w.heap.size ⟨⟨2, .zero, ofBs m, l⟩, A2, c2, none, 0⟩ := ⟨by rw [HL.out]; exact own, World.ownsRow_nil _ _ _ _⟩
                  clear hv hq HV HQ4 own
                  obtain ⟨r0, r1, r2, r3, rf0, rf1, rf2, rf3⟩ := K5.j.r.four
                  obtain ⟨z0, z1, z2, z3, zf0, zf1, zf2, zf3⟩ := K5.j.zr.four
                  obtain ⟨y0, y1, y2, y3, y4, y5⟩ := loc_six K5.j.zt
                  obtain ⟨yf0, yf1, yf2, yf3, yf4, yf5⟩ := free_six K5.j.zt
                  obtain ⟨x0, x1, x2, x3, x4, x5⟩ := loc_six K5.x
                  obtain ⟨xf0, xf1, xf2, xf3, xf4, xf5⟩ := free_six K5.x
                  obtain ⟨gt, gr, gb⟩ := K5.j.fin (.int .i64 2) (.string ⟨#[]⟩) (.int .i64 0) (.slice none 0 0) (.string (ofBs m)) (.slice A2 j c2) (.slice A N c) (.int .i64 q2.pos) (.int .i64 q2.err) (.int .i64 st4)
                  have go1 := K5.j.finOwn ho (.int .i64 2) (.string ⟨#[]⟩) (.int .i64 0) (.slice none 0 0) (.string (ofBs m)) (.slice A2 j c2) (.slice A N c) (.int .i64 q2.pos) (.int .i64 q2.err) (.int .i64 st4)
                  unfold put6 put4 at go1
                  unfold put6 put4 at gt gr gb
                  obtain ⟨k0, k1, k2, k3, k4, k5⟩ := loc_six gt
                  obtain ⟨g0, g1, g2, g3, _⟩ := gr.four
                  have HG := Lib.hid (And.intro g0 (And.intro g1 (And.intro g2 (And.intro g3 (And.intro k0 (And.intro k1 (And.intro k2 (And.intro k3 (And.intro k4 k5)))))))))
                  have GB := Lib.hid gb
                  have GO := Lib.hid go1
                  clear g0 g1 g2 g3 k0 k1 k2 k3 k4 k5 gt gr gb go1 
                  go_wp2
                  go_region
                  all_goals
                    go_wp2
                    obtain ⟨g0, g1, g2, g3, k0, k1, k2, k3, k4, k5⟩ := HG.out
                    refine bodyPost_ret (v := .tuple #[.agg #[.int .i64 2, .string ⟨#[]⟩, .int .i64 0, .slice none 0 0, .string (ofBs m), .slice A2 j c2], .agg #[.slice A N c, .int .i64 q2.pos, .int .i64 q2.err, .int .i64 st4], .int .i64 0]) (by simp [results, Try.results42, go_sem, g0, g1, g2, g3, k0, k1, k2, k3, k4, k5]) rfl ?_
                    exact RTx.mk ⟨⟨2, .zero, ofBs m, l⟩, A2, c2, none, 0⟩ q2 (by rw [HQ5.out]) (by unfold TxnC.cells; rw [HL.out]; rfl) rfl GB.out.drew (fun h => by rw [HQ5.out]; exact ⟨rfl, GO.out.below ((Below.refl _ _).drew), rfl⟩)
          · have hq := HQ2.out
            rw [if_pos hqe] at hq
            have HQ3 := Lib.hid hq
            have HE := Lib.hid hqe
            have ht : (q1.err != 0) = true := by simpa using hqe
            clear hq HQ2 hqe
            go_upto_if 88 with (fail)
            obtain ⟨w6, hw6⟩ : ∃ w6, w6 = (((w5.setCell ⟨w.heap.size, 0, none⟩ (.slice A N c)).setCell ⟨w.heap.size, 1, none⟩ (.int .i64 q1.pos)).setCell ⟨w.heap.size, 2, none⟩ (.int .i64 q1.err)).setCell ⟨w.heap.size, 3, none⟩ (.int .i64 st3) := ⟨_, rfl⟩
            rw [← hw6] at K4 ⊢
            clear hw6 K2 K3 hb r0 r1 r2 r3 rf0 rf1 rf2 rf3 z0 z1 z2 z3 zf0 zf1 zf2 zf3 y0 y1 y2 y3 y4 y5 yf0 yf1 yf2 yf3 yf4 yf5 x0 x1 x2 x3 x4 x5 xf0 xf1 xf2 xf3 xf4 xf5
            obtain ⟨r0, r1, r2, r3, rf0, rf1, rf2, rf3⟩ := K4.j.r.four
            obtain ⟨z0, z1, z2, z3, zf0, zf1, zf2, zf3⟩ := K4.j.zr.four
            obtain ⟨y0, y1, y2, y3, y4, y5⟩ := loc_six K4.j.zt
            obtain ⟨yf0, yf1, yf2, yf3, yf4, yf5⟩ := free_six K4.j.zt
            obtain ⟨x0, x1, x2, x3, x4, x5⟩ := loc_six K4.x
            obtain ⟨xf0, xf1, xf2, xf3, xf4, xf5⟩ := free_six K4.x
            obtain ⟨gt, gr, gb⟩ := K4.j.fin (.int .i64 2) (.string ⟨#[]⟩) (.int .i64 0) (.slice none 0 0) (.string (ofBs m)) (.slice none 0 0) (.slice A N c) (.int .i64 q1.pos) (.int .i64 q1.err) (.int .i64 st3)
            unfold put6 put4 at gt gr gb
            obtain ⟨k0, k1, k2, k3, k4, k5⟩ := loc_six gt
            obtain ⟨g0, g1, g2, g3, _⟩ := gr.four
            have HG := Lib.hid (And.intro g0 (And.intro g1 (And.intro g2 (And.intro g3 (And.intro k0 (And.intro k1 (And.intro k2 (And.intro k3 (And.intro k4 k5)))))))))
            have GB := Lib.hid gb
            clear g0 g1 g2 g3 k0 k1 k2 k3 k4 k5 gt gr gb  
            go_wp2
            go_region
            all_goals
              go_wp2
              obtain ⟨g0, g1, g2, g3, k0, k1, k2, k3, k4, k5⟩ := HG.out
              refine bodyPost_ret (v := .tuple #[.agg #[.int .i64 2, .string ⟨#[]⟩, .int .i64 0, .slice none 0 0, .string (ofBs m), .slice none 0 0], .agg #[.slice A N c, .int .i64 q1.pos, .int .i64 q1.err, .int .i64 st3], .int .i64 q1.err]) (by simp [results, Try.results42, go_sem, g0, g1, g2, g3, k0, k1, k2, k3, k4, k5]) rfl ?_
              exact RTx.mk ⟨⟨2, .zero, ofBs m, []⟩, none, 0, none, 0⟩ q1 (by rw [HQ3.out]) rfl rfl GB.out.drew (fun h => absurd h HE.out)
        · have hq := HQ1.out
          unfold readTxnRest at hq
          rw [if_neg k1, if_neg k3, if_neg k2] at hq
          have HQ2 := Lib.hid hq
          have t1 : (k == 1) = false := by simpa using k1
          have t3 : (k != 3) = true := by simpa using k3
          have t2 : (k != 2) = true := by simpa using k2
          clear hq k1 k2 k3
          clear r0 r1 r2 r3 rf0 rf1 rf2 rf3 z0 z1 z2 z3 zf0 zf1 zf2 zf3 y0 y1 y2 y3 y4 y5 yf0 yf1 yf2 yf3 yf4 yf5
          obtain ⟨r0, r1, r2, r3, rf0, rf1, rf2, rf3⟩ := K0.j.r.four
          obtain ⟨z0, z1, z2, z3, zf0, zf1, zf2, zf3⟩ := K0.j.zr.four
          obtain ⟨y0, y1, y2, y3, y4, y5⟩ := loc_six K0.j.zt
          obtain ⟨yf0, yf1, yf2, yf3, yf4, yf5⟩ := free_six K0.j.zt
          obtain ⟨x0, x1, x2, x3, x4, x5⟩ := loc_six K0.x
          obtain ⟨xf0, xf1, xf2, xf3, xf4, xf5⟩ := free_six K0.x
          obtain ⟨gt, gr, gb⟩ := K0.j.fin (.int .i64 k) (.string ⟨#[]⟩) (.int .i64 0) (.slice none 0 0) (.string ⟨#[]⟩) (.slice none 0 0) (.slice A N c) (.int .i64 s1.pos) (.int .i64 s1.err) (.int .i64 st1)
          unfold put6 put4 at gt gr gb
          obtain ⟨k0, k1, k2, k3, k4, k5⟩ := loc_six gt
          obtain ⟨g0, g1, g2, g3, _⟩ := gr.four
          have HG := Lib.hid (And.intro g0 (And.intro g1 (And.intro g2 (And.intro g3 (And.intro k0 (And.intro k1 (And.intro k2 (And.intro k3 (And.intro k4 k5)))))))))
          have GB := Lib.hid gb
          clear g0 g1 g2 g3 k0 k1 k2 k3 k4 k5 gt gr gb  
          go_wp2
          go_region
          all_goals
            go_wp2
            obtain ⟨g0, g1, g2, g3, k0, k1, k2, k3, k4, k5⟩ := HG.out
            refine bodyPost_ret (v := .tuple #[.agg #[.int .i64 k, .string ⟨#[]⟩, .int .i64 0, .slice none 0 0, .string ⟨#[]⟩, .slice none 0 0], .agg #[.slice A N c, .int .i64 s1.pos, .int .i64 s1.err, .int .i64 st1], .int .i64 1]) (by simp [results, Try.results42, go_sem, g0, g1, g2, g3, k0, k1, k2, k3, k4, k5]) rfl ?_
            exact RTx.mk ⟨⟨k, .zero, emptyB, []⟩, none, 0, none, 0⟩ s1 (by rw [HQ2.out]) rfl rfl GB.out.drew (fun h => absurd h (by decide))
  · have hq := HQ.out
    rw [if_pos he1] at hq
    have HQ1 := Lib.hid hq
    have HE := Lib.hid he1
    have ht : (s1.err != 0) = true := by simpa using he1
    clear hq HQ he1 J1
    obtain ⟨gt, gr, gb⟩ := J2.fin (.int .i64 0) (.string ⟨#[]⟩) (.int .i64 0) (.slice none 0 0) (.string ⟨#[]⟩) (.slice none 0 0) (.slice A N c) (.int .i64 s1.pos) (.int .i64 s1.err) (.int .i64 st1)
    unfold put6 put4 at gt gr gb
    obtain ⟨k0, k1, k2, k3, k4, k5⟩ := loc_six gt
    obtain ⟨g0, g1, g2, g3, _⟩ := gr.four
    have HG := Lib.hid (And.intro g0 (And.intro g1 (And.intro g2 (And.intro g3 (And.intro k0 (And.intro k1 (And.intro k2 (And.intro k3 (And.intro k4 k5)))))))))
    have GB := Lib.hid gb
    clear g0 g1 g2 g3 k0 k1 k2 k3 k4 k5 gt gr gb  
    go_wp2
    go_region
    all_goals
      go_wp2
      obtain ⟨g0, g1, g2, g3, k0, k1, k2, k3, k4, k5⟩ := HG.out
      refine bodyPost_ret (v := .tuple #[.agg #[.int .i64 0, .string ⟨#[]⟩, .int .i64 0, .slice none 0 0, .string ⟨#[]⟩, .slice none 0 0], .agg #[.slice A N c, .int .i64 s1.pos, .int .i64 s1.err, .int .i64 st1], .int .i64 s1.err]) (by simp [results, Try.results42, go_sem, g0, g1, g2, g3, k0, k1, k2, k3, k4, k5]) rfl ?_
      exact RTx.mk ⟨⟨0, .zero, emptyB, []⟩, none, 0, none, 0⟩ s1 (by rw [HQ1.out]) rfl rfl GB.out.drew (fun h => absurd h HE.out)
end Go.Proofs.Ytnmcdifkknphgaa
