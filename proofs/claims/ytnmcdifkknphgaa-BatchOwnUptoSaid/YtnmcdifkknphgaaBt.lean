/- Walks of batch.unless, batch.sure and batch.txn. -/
import Derived.Test.YtnmcdifkknphgaaBck
import Derived.Test.YtnmcdifkknphgaaProc7
import Derived.Test.YtnmcdifkknphgaaGen
namespace Go.Proofs.Ytnmcdifkknphgaa
open Go.RowKit

/-- What Decode gives up by. -/
def brefusal (e : Int) : List PanicEntry := [{ v := .iface 85 (.agg #[.int .i64 e]), recovered := false }]

theorem unless_yes (e : Int) (w : World) : Calls Try.prog 37 #[.bool true, .int .i64 e] w fun e' w' => e' = .returned (.tuple #[]) ∧ w = w' := by
  go_enter Try.func37, Try.ntmps37
  go_wp2
  go_end0
  exact ⟨rfl, rfl⟩

theorem unless_no (e : Int) (w : World) : Calls Try.prog 37 #[.bool false, .int .i64 e] w fun e' w' => e' = .panicked (brefusal e) ∧ w = w' := by
  go_enter Try.func37, Try.ntmps37
  go_wp2
  exact ⟨rfl, rfl, rfl⟩

theorem bsure_yes (r : Nat) (s : Rdr) (w : World) (h : Rd w r s) (he : s.err = 0) : Calls Try.prog 36 #[.pointer (some ⟨r, 0, none⟩)] w fun e w' => e = .returned (.tuple #[]) ∧ RdStep w w' r s := by
  have ht : (s.err == 0) = true := by simp [he]
  have HE := Lib.hid he
  clear he
  go_enter Try.func36, Try.ntmps36
  go_wp2_with fail
  refine (rerr_any r _ _ h).mono ?_; rintro e w1 ⟨rfl, hS⟩
  go_wp2_with fail
  refine (unless_yes _ _).mono ?_; rintro e w2 ⟨rfl, rfl⟩
  go_wp2
  go_end0
  exact ⟨rfl, hS⟩

theorem bsure_no (r : Nat) (s : Rdr) (w : World) (h : Rd w r s) (he : s.err ≠ 0) : Calls Try.prog 36 #[.pointer (some ⟨r, 0, none⟩)] w fun e w' => e = .panicked (brefusal s.err) ∧ RdStep w w' r s := by
  have ht : (s.err == 0) = false := by simpa using he
  clear he
  go_enter Try.func36, Try.ntmps36
  go_wp2_with fail
  refine (rerr_any r _ _ h).mono ?_; rintro e w1 ⟨rfl, hS⟩
  go_wp2_with fail
  refine (unless_no _ _).mono ?_; rintro e w2 ⟨rfl, rfl⟩
  go_wp2
  exact ⟨rfl, rfl, hS⟩

/-- The lists of a transaction are one's own. -/
structure TxnC.own (W : World) (base : Nat) (x : TxnC) : Prop where
  a : W.ownsRow base 57 3 (.slice x.A x.t.args.length x.c) x.t.args.length (valsCells x.t.args)
  b : W.ownsRow base 59 8 (.slice x.B x.t.proc.code.length x.d) x.t.proc.code.length (codeCells x.t.proc.code)

theorem TxnC.own.ok {W : World} {base : Nat} {x : TxnC} (h : x.own W base) : x.ok W := ⟨Row.of_owns h.a, owns_none h.a, Row.of_owns h.b, owns_none h.b⟩

/-- What txn answers. -/
def TxnPost (q : (Txn × Rdr) × Int) (r : Nat) (w : World) (e : Ending) (w' : World) : Prop :=
  (q.2 = 0 → ∃ A c B d, e = .returned (.agg (TxnC.cells ⟨q.1.1, A, c, B, d⟩)) ∧ TxnC.own w' w.heap.size ⟨q.1.1, A, c, B, d⟩ ∧ RdStep w w' r q.1.2) ∧ (q.2 ≠ 0 → e = .panicked (brefusal q.2) ∧ ∃ s, RdStep w w' r s)

theorem TxnPost.no {q : (Txn × Rdr) × Int} {r : Nat} {w w' : World} {s : Rdr} {E : Int} (h : q.2 = E) (hE : E ≠ 0) (hS : RdStep w w' r s) : TxnPost q r w (.panicked (brefusal E)) w' := by
  subst h
  exact ⟨fun h => absurd h hE, fun _ => ⟨rfl, _, hS⟩⟩

theorem TxnPost.yes {q : (Txn × Rdr) × Int} {r : Nat} {w w' : World} {s : Rdr} {t : Txn} {A B : Option Addr} {c d : Nat} {cs : Array Value} (h : q = ((t, s), 0)) (hc : cs = TxnC.cells ⟨t, A, c, B, d⟩) (ho : TxnC.own w' w.heap.size ⟨t, A, c, B, d⟩) (hS : RdStep w w' r s) : TxnPost q r w (.returned (.agg cs)) w' := by
  subst h
  subst hc
  exact ⟨fun _ => ⟨A, c, B, d, rfl, ho, hS⟩, fun h => absurd rfl h⟩

/-- What stands in memory while txn runs: the result, the transaction, the reader. -/
structure BSt (w W : World) (r : Nat) (s : Rdr) (xb : Nat) (cs : Array Value) : Prop where
  z : Loc W w.heap.size #[.int .i64 0, .string ⟨#[]⟩, .int .i64 0, .slice none 0 0, .string ⟨#[]⟩, .slice none 0 0] 30
  x : Loc W xb cs 30
  rd : RdStep w W r s
  hr : r < w.heap.size
  hx : w.heap.size < xb

namespace BSt
variable {w W V : World} {r xb : Nat} {s s' : Rdr} {cs : Array Value}
theorem read (h : BSt w W r s xb cs) (hS : RdStep W V r s') : BSt w V r s' xb cs := by
  have hr := h.hr
  have hx := h.hx
  exact ⟨h.z.rd hS (by omega), h.x.rd hS (by omega), h.rd.then hS, hr, hx⟩
theorem below (h : BSt w W r s xb cs) (hb : Below W.heap.size W V) : BSt w V r s xb cs := ⟨h.z.below hb h.z.lt, h.x.below hb h.x.lt, h.rd.below hb, h.hr, h.hx⟩
theorem alloc (h : BSt w W r s xb cs) (o : Obj) : BSt w (W.alloc o) r s xb cs := h.below ((Below.refl _ _).alloc (Nat.le_refl _) o)
theorem set (h : BSt w W r s xb cs) (i : Nat) (v : Value) : BSt w (W.setCell ⟨xb, i, none⟩ v) r s xb (cs.setIfInBounds i v) := by
  have hr := h.hr
  have hx := h.hx
  exact ⟨h.z.other (a := ⟨xb, i, none⟩) (show w.heap.size ≠ xb by omega) v, h.x.set i v, h.rd.set h.x (by decide) (by decide) (by omega) i v, hr, hx⟩
end BSt

/-- A transaction laid cell by cell. -/
def put6 (w : World) (b : Nat) (u0 u1 u2 u3 u4 u5 : Value) : World := (((((w.setCell ⟨b, 0, none⟩ u0).setCell ⟨b, 1, none⟩ u1).setCell ⟨b, 2, none⟩ u2).setCell ⟨b, 3, none⟩ u3).setCell ⟨b, 4, none⟩ u4).setCell ⟨b, 5, none⟩ u5
theorem loc_put6 {w : World} {b : Nat} {v0 v1 v2 v3 v4 v5 : Value} {t : TypeId} (h : Loc w b #[v0, v1, v2, v3, v4, v5] t) (u0 u1 u2 u3 u4 u5 : Value) : Loc (put6 w b u0 u1 u2 u3 u4 u5) b #[u0, u1, u2, u3, u4, u5] t :=
  (((((h.set 0 u0).set 1 u1).set 2 u2).set 3 u3).set 4 u4).set 5 u5
theorem loc_six {w : World} {b : Nat} {v0 v1 v2 v3 v4 v5 : Value} {t : TypeId} (h : Loc w b #[v0, v1, v2, v3, v4, v5] t) :
    w.cell? ⟨b, 0, none⟩ = some v0 ∧ w.cell? ⟨b, 1, none⟩ = some v1 ∧ w.cell? ⟨b, 2, none⟩ = some v2 ∧ w.cell? ⟨b, 3, none⟩ = some v3 ∧ w.cell? ⟨b, 4, none⟩ = some v4 ∧ w.cell? ⟨b, 5, none⟩ = some v5 :=
  ⟨h.cell 0, h.cell 1, h.cell 2, h.cell 3, h.cell 4, h.cell 5⟩
theorem free_six {w : World} {b : Nat} {c : Array Value} {t : TypeId} (h : Loc w b c t) :
    w.frozen? ⟨b, 0, none⟩ = false ∧ w.frozen? ⟨b, 1, none⟩ = false ∧ w.frozen? ⟨b, 2, none⟩ = false ∧ w.frozen? ⟨b, 3, none⟩ = false ∧ w.frozen? ⟨b, 4, none⟩ = false ∧ w.frozen? ⟨b, 5, none⟩ = false :=
  ⟨h.free 0, h.free 1, h.free 2, h.free 3, h.free 4, h.free 5⟩

/-- The result laid. -/
theorem BSt.fin {w W : World} {r xb : Nat} {s : Rdr} {cs : Array Value} (h : BSt w W r s xb cs) (u0 u1 u2 u3 u4 u5 : Value) :
    Loc (put6 W w.heap.size u0 u1 u2 u3 u4 u5) w.heap.size #[u0, u1, u2, u3, u4, u5] 30 ∧ RdStep w (put6 W w.heap.size u0 u1 u2 u3 u4 u5) r s := by
  have l0 := h.z.set 0 u0
  have l1 := l0.set 1 u1
  have l2 := l1.set 2 u2
  have l3 := l2.set 3 u3
  have l4 := l3.set 4 u4
  have r0 := h.rd.set h.z (by decide) (by decide) (Nat.le_refl _) 0 u0
  have r1 := r0.set l0 (by decide) (by decide) (Nat.le_refl _) 1 u1
  have r2 := r1.set l1 (by decide) (by decide) (Nat.le_refl _) 2 u2
  have r3 := r2.set l2 (by decide) (by decide) (Nat.le_refl _) 3 u3
  have r4 := r3.set l3 (by decide) (by decide) (Nat.le_refl _) 4 u4
  exact ⟨loc_put6 h.z u0 u1 u2 u3 u4 u5, r4.set l4 (by decide) (by decide) (Nat.le_refl _) 5 u5⟩

theorem own_six {W : World} {base b size n : Nat} {e : TypeId} {v : Value} {xs : List Value} {c : Array Value} {t : TypeId} (h : W.ownsRow base e size v n xs) (hl : Loc W b c t) (ht : e ≠ t) (u0 u1 u2 u3 u4 u5 : Value) : (put6 W b u0 u1 u2 u3 u4 u5).ownsRow base e size v n xs := by
  have hne := owns_ne h hl ht
  exact owns_setCell (owns_setCell (owns_setCell (owns_setCell (owns_setCell (owns_setCell h hne _) hne _) hne _) hne _) hne _) hne _
end Go.Proofs.Ytnmcdifkknphgaa
