/- batch.Decode: the closure that recovers, the doors, what stands in memory. -/
import Derived.Test.YtnmcdifkknphgaaBx
import Derived.Deep.RegionLaw
import Derived.Recover
namespace Go.Proofs.Ytnmcdifkknphgaa
open Go.RowKit

theorem owns_two {W V : World} {b1 b2 s1 s2 n1 n2 : Nat} {e1 e2 : TypeId} {v u : Value} {xs ys : List Value} (hv : W.ownsRow b1 e1 s1 v n1 xs) (hu : W.ownsRow b2 e2 s2 u n2 ys) (hne : e1 ≠ e2) (hg : W.grownBy V v.ownBlock) : V.ownsRow b2 e2 s2 u n2 ys := by
  refine hu.kept hg ?_
  rcases hu.2 with ⟨rfl, _⟩ | ⟨g, cap, cur, rfl, _, hh, _⟩
  · exact .inl rfl
  · exact .inr (fun h => owns_ne hv hh hne h.symm)

namespace TxnC.own
variable {W V : World} {base : Nat} {x : TxnC}
theorem below (h : x.own W base) (hb : Below W.heap.size W V) : x.own V base := ⟨owns_mono' h.a hb, owns_mono' h.b hb⟩
theorem rd {r : Nat} {s s' : Rdr} (h : x.own W base) (hr : Rd W r s) (hS : RdStep W V r s') : x.own V base := ⟨rd_own h.a (by decide) hr hS, rd_own h.b (by decide) hr hS⟩
theorem set {b : Nat} {c : Array Value} {t : TypeId} (h : x.own W base) (hl : Loc W b c t) (ha : 57 ≠ t) (hb : 59 ≠ t) (i : Nat) (u : Value) : x.own (W.setCell ⟨b, i, none⟩ u) base :=
  ⟨owns_setCell (a := ⟨b, i, none⟩) h.a (owns_ne h.a hl ha) u, owns_setCell (a := ⟨b, i, none⟩) h.b (owns_ne h.b hl hb) u⟩
theorem grown {b1 n : Nat} {v : Value} {xs : List Value} (h : x.own W base) (hv : W.ownsRow b1 30 6 v n xs) (hg : W.grownBy V v.ownBlock) : x.own V base := ⟨owns_two hv h.a (by decide) hg, owns_two hv h.b (by decide) hg⟩
theorem mono {base' : Nat} (h : x.own W base) (hb : base' ≤ base) : x.own W base' := ⟨owns_mono h.a hb, owns_mono h.b hb⟩
end TxnC.own

set_option maxRecDepth 100000 in
/-- The closure in a frame that gives up: it lays the zero batch and the error. -/
theorem bcatch_panicking (p q : Nat) (c0 c1 e0 : Value) (E : Int) (older : List PanicEntry) (w : World) (hp : Loc w p #[c0, c1] 24) (hq : Loc w q #[e0] 33) (hpq : p ≠ q) :
    CallsD Try.prog 32 #[.pointer (some ⟨p, 0, none⟩), .pointer (some ⟨q, 0, none⟩)] (.panicking ({ v := .iface 85 (.agg #[.int .i64 E]), recovered := false } :: older)) w fun e u' w' =>
      e = .returned (.tuple #[]) ∧ u' = .panicking ({ v := .iface 85 (.agg #[.int .i64 E]), recovered := true } :: older) ∧
        w' = ((((w.setCell ⟨p, 0, none⟩ (.int .i64 0)).setCell ⟨p, 1, none⟩ (.slice none 0 0)).setCell ⟨q, 0, none⟩ (.int .i64 E)).alloc (.cells #[.int .i64 E] 85)).drew := by
  have ta : ∀ t W, (Instr.typeAssert (.iface 85 (.agg #[.int .i64 E])) t 85 true).run Try.prog W = .ok (.tuple #[.agg #[.int .i64 E], .bool true]) W := fun t W => by kernel_rfl
  have k0 := hp.cell 0; have k1 := hp.cell 1; have k3 := hq.cell 0
  have f0 := hp.free 0; have f1 := hp.free 1; have f3 := hq.free 0
  have lp := hp.lt
  have lq := hq.lt
  simp at k0 k1 k3
  refine callsD_of_wpS Try.func32 rfl fun c₀ cs hu => ?_
  apply wpS_seq
  apply wpS_region
  simp [wpOpsS, go_sem, recoverD, hu, Try.ntmps32, Exit.thenS, ta]
  apply wpS_seq
  apply wpS_region
  simp [wpOpsS, go_sem, Exit.thenS]
  refine wpS_cond (t := true) (by simp [Act.eval]) ?_
  simp only [if_true]
  refine wpS_of_wp ?_
  simp [Array.replicate]
  go_wp2
  go_region
  all_goals go_wp2
  all_goals simp [bodyPostS, results, Try.results32]

set_option maxRecDepth 100000 in
theorem bcatch_idle (p q : Nat) (w : World) :
    CallsD Try.prog 32 #[.pointer (some ⟨p, 0, none⟩), .pointer (some ⟨q, 0, none⟩)] .returning w fun e u' w' => e = .returned (.tuple #[]) ∧ u' = .returning ∧ w' = w.alloc (.cells #[.int .i64 0] 85) := by
  have ta : ∀ t W, (Instr.typeAssert .nilIface t 85 true).run Try.prog W = .ok (.tuple #[.agg #[.int .i64 0], .bool false]) W := fun t W => by kernel_rfl
  refine callsD_of_wpS Try.func32 rfl fun c₀ cs hu => ?_
  apply wpS_seq
  apply wpS_region
  simp [wpOpsS, go_sem, recoverD, hu, Try.ntmps32, Exit.thenS, ta]
  apply wpS_seq
  apply wpS_region
  simp [wpOpsS, go_sem, Exit.thenS]
  refine wpS_cond (t := false) (by simp [Act.eval]) ?_
  simp only [Bool.false_eq_true, if_false]
  refine wpS_of_wp (wp_skip ?_)
  cases c₀
  simp_all [bodyPostS, results, Try.results32]

/-- What Decode defers. -/
def bdfr (p q : Nat) : Deferred := { target := Target.fn (Fn.func 32) #[.pointer (some ⟨p, 0, none⟩), .pointer (some ⟨q, 0, none⟩)], args := #[] }

theorem bdoor_panic (p q : Nat) (c0 c1 e0 : Value) (E : Int) (a : Act) (w : World) (R : Ending → World → Prop) (hd : a.defers = [bdfr p q]) (h2 : a.tmps.getD 2 undef = .pointer (some ⟨p, 0, none⟩)) (h3 : a.tmps.getD 3 undef = .pointer (some ⟨q, 0, none⟩))
    (hp : Loc w p #[c0, c1] 24) (hq : Loc w q #[e0] 33) (hpq : p ≠ q)
    (hR : R (.returned (.tuple #[.agg #[.int .i64 0, .slice none 0 0], .int .i64 E])) ((((w.setCell ⟨p, 0, none⟩ (.int .i64 0)).setCell ⟨p, 1, none⟩ (.slice none 0 0)).setCell ⟨q, 0, none⟩ (.int .i64 E)).alloc (.cells #[.int .i64 E] 85)).drew) :
    bodyPostD Try.prog Try.f18 R (.panic (brefusal E)) a w := by
  have Lp := (((((hp.set 0 (.int .i64 0)).set 1 (.slice none 0 0)).other (a := ⟨q, 0, none⟩) hpq (.int .i64 E)).alloc (.cells #[.int .i64 E] 85))).drew
  have Lq := ((((hq.other (a := ⟨p, 0, none⟩) (Ne.symm hpq) (.int .i64 0)).other (a := ⟨p, 1, none⟩) (Ne.symm hpq) (.slice none 0 0)).set 0 (.int .i64 E)).alloc (.cells #[.int .i64 E] 85)).drew
  simp only [List.setIfInBounds_toArray, List.set_cons_zero, List.set_cons_succ] at Lp Lq
  have k0 := Lp.cell 0; have k1 := Lp.cell 1; have k3 := Lq.cell 0
  simp only [List.getElem?_toArray, List.getElem?_cons_zero, List.getElem?_cons_succ] at k0 k1 k3
  simp only [Array.getD_eq_getD_getElem?] at h2 h3
  show Leaves Try.prog Try.f18 a.tmps R a.defers (.panicking (brefusal E)) w
  rw [hd]
  refine leaves_cons (f := 32) (args := #[.pointer (some ⟨p, 0, none⟩), .pointer (some ⟨q, 0, none⟩)]) (by simp) (by simp [go_sem]) ?_
  refine (bcatch_panicking p q c0 c1 e0 E [] w hp hq hpq).mono ?_
  rintro e u' w'' ⟨rfl, rfl, rfl⟩
  generalize ((((w.setCell ⟨p, 0, none⟩ (.int .i64 0)).setCell ⟨p, 1, none⟩ (.slice none 0 0)).setCell ⟨q, 0, none⟩ (.int .i64 E)).alloc (.cells #[.int .i64 E] 85)).drew = W at *
  refine ⟨_, ?_, hR⟩
  simp [results, Try.results18, go_sem, h2, h3, k0, k1, k3]

theorem bdoor_ret (p q : Nat) (c0 c1 e0 : Value) (a : Act) (w : World) (R : Ending → World → Prop) (hd : a.defers = [bdfr p q]) (h2 : a.tmps.getD 2 undef = .pointer (some ⟨p, 0, none⟩)) (h3 : a.tmps.getD 3 undef = .pointer (some ⟨q, 0, none⟩))
    (hp : Loc w p #[c0, c1] 24) (hq : Loc w q #[e0] 33)
    (hR : R (.returned (.tuple #[.agg #[c0, c1], e0])) (w.alloc (.cells #[.int .i64 0] 85))) :
    bodyPostD Try.prog Try.f18 R .ret a w := by
  have Lp := hp.alloc (.cells #[.int .i64 0] 85)
  have Lq := hq.alloc (.cells #[.int .i64 0] 85)
  have k0 := Lp.cell 0; have k1 := Lp.cell 1; have k3 := Lq.cell 0
  simp only [List.getElem?_toArray, List.getElem?_cons_zero, List.getElem?_cons_succ] at k0 k1 k3
  simp only [Array.getD_eq_getD_getElem?] at h2 h3
  show Leaves Try.prog Try.f18 a.tmps R a.defers .returning w
  rw [hd]
  refine leaves_cons (f := 32) (args := #[.pointer (some ⟨p, 0, none⟩), .pointer (some ⟨q, 0, none⟩)]) (by simp) (by simp [go_sem]) ?_
  refine (bcatch_idle p q w).mono ?_
  rintro e u' w'' ⟨rfl, rfl, rfl⟩
  refine ⟨_, ?_, hR⟩
  generalize w.alloc (.cells #[.int .i64 0] 85) = W at *
  simp [results, Try.results18, go_sem, h2, h3, k0, k1, k3]

/-- What Decode answers. -/
def BDPost (xs : Bs) (w : World) (e : Ending) (w' : World) : Prop :=
  ∃ (l : List TxnC) (L : Option Addr) (cap : Nat), l.map (·.t) = (batDecode xs).1.txns ∧ e = .returned (.tuple #[.agg #[.int .i64 (batDecode xs).1.first, .slice L l.length cap], .int .i64 (batDecode xs).2]) ∧
      w'.ownsRow w.heap.size 30 6 (.slice L l.length cap) l.length (txnsCells l) ∧ (∀ x ∈ l, x.own w' w.heap.size) ∧ Below w.heap.size w w'

theorem BDPost.none {xs : Bs} {w w' : World} {E : Int} (hx : batDecode xs = (.zero, E)) (hb : Below w.heap.size w w') : BDPost xs w (.returned (.tuple #[.agg #[.int .i64 0, .slice none 0 0], .int .i64 E])) w' := by
  refine ⟨[], Option.none, 0, ?_, ?_, World.ownsRow_nil _ _ _ _, (fun x hx => by cases hx), hb⟩
  · rw [hx]; rfl
  · rw [hx]; rfl

/-- What stands in memory while Decode runs. -/
structure BDSt (w W : World) (r : Nat) (q : Rdr) (p0 p1 : Value) : Prop where
  lp : Loc W w.heap.size #[p0, p1] 24
  le : Loc W (w.heap.size + 1) #[.int .i64 0] 33
  rd : Rd W r q
  b : Below w.heap.size w W
namespace BDSt
variable {w W W' : World} {r : Nat} {q q' : Rdr} {p0 p1 : Value}
theorem step (h : BDSt w W r q p0 p1) (hS : RdStep W W' r q') (hr : w.heap.size ≤ r) : BDSt w W' r q' p0 p1 :=
  ⟨h.lp.rd hS (h.rd.ne h.lp (by decide)), h.le.rd hS (h.rd.ne h.le (by decide)), hS.1, below_rd h.b hS h.b.size hr⟩
theorem set0 (h : BDSt w W r q p0 p1) (v : Value) : BDSt w (W.setCell ⟨w.heap.size, 0, none⟩ v) r q v p1 := by
  have hl := h.lp.set 0 v
  simp only [List.setIfInBounds_toArray, List.set_cons_zero] at hl
  exact ⟨hl, h.le.other (a := ⟨w.heap.size, 0, none⟩) (by show w.heap.size + 1 ≠ w.heap.size; omega) v, h.rd.other h.lp (by decide) (by decide) 0 v, h.b.setCell (p := ⟨w.heap.size, 0, none⟩) (Nat.le_refl _) v⟩
theorem set1 (h : BDSt w W r q p0 p1) (v : Value) : BDSt w (W.setCell ⟨w.heap.size, 1, none⟩ v) r q p0 v := by
  have hl := h.lp.set 1 v
  simp only [List.setIfInBounds_toArray, List.set_cons_zero, List.set_cons_succ] at hl
  exact ⟨hl, h.le.other (a := ⟨w.heap.size, 1, none⟩) (by show w.heap.size + 1 ≠ w.heap.size; omega) v, h.rd.other h.lp (by decide) (by decide) 1 v, h.b.setCell (p := ⟨w.heap.size, 1, none⟩) (Nat.le_refl _) v⟩
theorem below (h : BDSt w W r q p0 p1) (hb : Below W.heap.size W W') : BDSt w W' r q p0 p1 :=
  ⟨h.lp.below hb h.lp.lt, h.le.below hb h.le.lt, h.rd.below hb, below_then h.b hb h.b.size⟩
theorem alloc (h : BDSt w W r q p0 p1) (o : Obj) : BDSt w (W.alloc o) r q p0 p1 := h.below ((Below.refl _ _).alloc (Nat.le_refl _) o)
theorem drew (h : BDSt w W r q p0 p1) : BDSt w W.drew r q p0 p1 := h.below ((Below.refl _ _).drew)
theorem grown {v : Value} {m base : Nat} {cs : List Value} (h : BDSt w W r q p0 p1) (hown : W.ownsRow base 30 6 v m cs) (hg : W.grownBy W' v.ownBlock) (hb : ∀ k, v.ownBlock = some k → w.heap.size ≤ k) : BDSt w W' r q p0 p1 := by
  refine ⟨h.lp.grown hg (owns_ne hown h.lp (by decide)), h.le.grown hg (owns_ne hown h.le (by decide)), ?_, h.b.grown hg h.b.size hb⟩
  obtain ⟨d, h0, h1, h2⟩ := h.rd
  exact ⟨d, grown_cell hg h0 (owns_ne hown h0 (by decide)), grown_cell hg h1 (owns_ne hown h1 (by decide)), h2⟩
/-- The end by a refusal. -/
theorem panic {xs : Bs} {E : Int} (h : BDSt w W r q p0 p1) (a : Act) (hd : a.defers = [bdfr w.heap.size (w.heap.size + 1)]) (h2 : a.tmps.getD 2 undef = .pointer (some ⟨w.heap.size, 0, none⟩)) (h3 : a.tmps.getD 3 undef = .pointer (some ⟨w.heap.size + 1, 0, none⟩)) (hx : batDecode xs = (.zero, E)) :
    bodyPostD Try.prog Try.f18 (BDPost xs w) (.panic (brefusal E)) a W :=
  bdoor_panic w.heap.size (w.heap.size + 1) p0 p1 (.int .i64 0) E a W _ hd h2 h3 h.lp h.le (by omega) (BDPost.none hx ((((((h.b.setCell (p := ⟨w.heap.size, 0, none⟩) (Nat.le_refl _) _).setCell (p := ⟨w.heap.size, 1, none⟩) (Nat.le_refl _) _).setCell (p := ⟨w.heap.size + 1, 0, none⟩) (by show w.heap.size ≤ w.heap.size + 1; omega) _).alloc (by have := h.b.size; simp only [World.size_setCell]; omega) _).drew)))
/-- The same, the error stored ahead of it. -/
theorem panic' {xs : Bs} {E F : Int} (h : BDSt w W r q p0 p1) (a : Act) (hd : a.defers = [bdfr w.heap.size (w.heap.size + 1)]) (h2 : a.tmps.getD 2 undef = .pointer (some ⟨w.heap.size, 0, none⟩)) (h3 : a.tmps.getD 3 undef = .pointer (some ⟨w.heap.size + 1, 0, none⟩)) (hx : batDecode xs = (.zero, E)) :
    bodyPostD Try.prog Try.f18 (BDPost xs w) (.panic (brefusal E)) a (W.setCell ⟨w.heap.size + 1, 0, none⟩ (.int .i64 F)) := by
  have he := h.le.set 0 (.int .i64 F)
  simp only [List.setIfInBounds_toArray, List.set_cons_zero] at he
  have hb := h.b.setCell (p := ⟨w.heap.size + 1, 0, none⟩) (by show w.heap.size ≤ w.heap.size + 1; omega) (.int .i64 F)
  exact bdoor_panic w.heap.size (w.heap.size + 1) p0 p1 (.int .i64 F) E a _ _ hd h2 h3 (h.lp.other (a := ⟨w.heap.size + 1, 0, none⟩) (by show w.heap.size ≠ w.heap.size + 1; omega) _) he (by omega) (BDPost.none hx ((((((hb.setCell (p := ⟨w.heap.size, 0, none⟩) (Nat.le_refl _) _).setCell (p := ⟨w.heap.size, 1, none⟩) (Nat.le_refl _) _).setCell (p := ⟨w.heap.size + 1, 0, none⟩) (by show w.heap.size ≤ w.heap.size + 1; omega) _).alloc (by have := h.b.size; simp only [World.size_setCell]; omega) _).drew)))
theorem sete (h : BDSt w W r q p0 p1) : BDSt w (W.setCell ⟨w.heap.size + 1, 0, none⟩ (.int .i64 0)) r q p0 p1 := by
  have he := h.le.set 0 (.int .i64 0)
  simp only [List.setIfInBounds_toArray, List.set_cons_zero] at he
  exact ⟨h.lp.other (a := ⟨w.heap.size + 1, 0, none⟩) (by show w.heap.size ≠ w.heap.size + 1; omega) _, he, h.rd.other h.le (by decide) (by decide) 0 _, h.b.setCell (p := ⟨w.heap.size + 1, 0, none⟩) (by show w.heap.size ≤ w.heap.size + 1; omega) _⟩
/-- The end by a return of a batch. -/
theorem good {xs : Bs} {f : Int} {A : Option Addr} {c : Nat} {l : List TxnC} (h : BDSt w W r q (.int .i64 f) (.slice A l.length c)) (a : Act) (hd : a.defers = [bdfr w.heap.size (w.heap.size + 1)]) (h2 : a.tmps.getD 2 undef = .pointer (some ⟨w.heap.size, 0, none⟩)) (h3 : a.tmps.getD 3 undef = .pointer (some ⟨w.heap.size + 1, 0, none⟩))
    (hown : W.ownsRow w.heap.size 30 6 (.slice A l.length c) l.length (txnsCells l)) (hl : ∀ x ∈ l, x.own W w.heap.size) (hx : batDecode xs = (⟨f, l.map (·.t)⟩, 0)) :
    bodyPostD Try.prog Try.f18 (BDPost xs w) .ret a W := by
  have hb := (Below.refl W.heap.size W).alloc (Nat.le_refl _) (.cells #[.int .i64 0] 85)
  refine bdoor_ret w.heap.size (w.heap.size + 1) _ _ _ a _ _ hd h2 h3 h.lp h.le ⟨l, A, c, ?_, ?_, owns_mono' hown hb, fun x hx => (hl x hx).below hb, below_then h.b hb h.b.size⟩
  · rw [hx]
  · rw [hx]
end BDSt

/-- A region that gives up, and nothing else. -/
def BRPan (w : World) (r : Nat) (E : Int) : Exit → Act → World → Prop
  | .panic ch, a, W => ch = brefusal E ∧ a.defers = [bdfr w.heap.size (w.heap.size + 1)] ∧ a.tmps.getD 2 undef = .pointer (some ⟨w.heap.size, 0, none⟩) ∧ a.tmps.getD 3 undef = .pointer (some ⟨w.heap.size + 1, 0, none⟩) ∧ ∃ q p0 p1, BDSt w W r q p0 p1
  | _, _, _ => False
theorem BRPan.put {w : World} {r : Nat} {E : Int} (d : Nat) (h2 : d ≠ 2) (h3 : d ≠ 3) (v : Value) (c : List PanicEntry) (a : Act) (W : World) (h : BRPan w r E (.panic c) (a.put (some d) v) W) : BRPan w r E (.panic c) a W := by
  obtain ⟨k1, k2, k3, k4, k5⟩ := h
  rw [put_defers] at k2
  rw [getD_put_other _ _ _ _ h2] at k3
  rw [getD_put_other _ _ _ _ h3] at k4
  exact ⟨k1, k2, k3, k4, k5⟩

theorem infoTxn : (Try.prog.info? 30).map (fun i => (i.zero, i.size, i.bytes)) = some (some (.agg #[.int .i64 0, .string ⟨#[]⟩, .int .i64 0, .slice none 0 0, .string ⟨#[]⟩, .slice none 0 0]), 6, 96) := by kernel_rfl

/-! ### the plain side -/
/-- What follows the transactions. -/
def bdecTail (f : Int) (q : (List Txn × Rdr) × Int) : Bat × Int :=
  if q.2 ≠ 0 then (.zero, q.2) else
  if q.1.2.end_ ≠ 0 then (.zero, q.1.2.end_) else
  if batCheck ⟨f, q.1.1⟩ ≠ 0 then (.zero, batCheck ⟨f, q.1.1⟩) else (⟨f, q.1.1⟩, 0)

theorem batDecode_eq {b : Bs} {r1 r2 : Rdr} {f n : Int} (hb : ¬ 65536 < b.length) (h1 : (Rdr.new b).number = (f, r1)) (h2 : r1.number = (n, r2)) :
    batDecode b = if r2.err ≠ 0 then (.zero, r2.err) else if 64 < n then (.zero, 1) else bdecTail f (readTxns b.length n.toNat r2 []) := by
  unfold batDecode
  rw [if_neg hb, h1]; simp only; rw [h2]; simp only
  rcases readTxns b.length n.toNat r2 [] with ⟨⟨l, r⟩, e⟩
  rfl

theorem readTxns_step (all k : Nat) (r : Rdr) (l : List Txn) : readTxns all (k + 1) r l = if (readTxn all r).2 ≠ 0 then ((l, (readTxn all r).1.2), (readTxn all r).2) else readTxns all k (readTxn all r).1.2 (l ++ [(readTxn all r).1.1]) := by
  rw [readTxns]

theorem shape_fit {x : TxnC} (h : x.t.shape) : x.fit := by
  rcases h with ⟨_, _, ha, hc, hf⟩ | ⟨_, hp, ha⟩ | ⟨_, hp, hl, _⟩
  · obtain ⟨_, h1, h2, _⟩ := procCheck_zero hc
    exact ⟨⟨by unfold i64R; omega, fun i hi => fits_inR (hf i hi)⟩, by omega, by rw [ha]; simp⟩
  · refine ⟨?_, by rw [hp]; simp [Prc.zero], by rw [ha]; simp⟩
    rw [hp]; exact ⟨by simp [Prc.zero, i64R], by simp [Prc.zero]⟩
  · refine ⟨?_, by rw [hp]; simp [Prc.zero], by omega⟩
    rw [hp]; exact ⟨by simp [Prc.zero, i64R], by simp [Prc.zero]⟩

theorem readTxns_ok {b : Bs} {r1 r2 r3 : Rdr} {f n : Int} {l : List Txn} (h1 : (Rdr.new b).number = (f, r1)) (h2 : r1.number = (n, r2)) (he : r2.err = 0) (h4 : readTxns b.length n.toNat r2 [] = ((l, r3), 0)) :
    i64R f ∧ ∀ t ∈ l, t.shape := by
  have hs1 : r1.err = 0 := by
    rcases Classical.em (r1.err = 0) with h | h
    · exact h
    · unfold Rdr.number Rdr.row at h2
      rw [if_pos h] at h2
      have := (Prod.mk.inj h2).2
      rw [← this] at he; exact he
  obtain ⟨_, ha0, ha1, z2, _, hr2, _⟩ := number_inv (Rem.new b) h1 hs1
  obtain ⟨_, _, _, z3, _, hr3, _⟩ := number_inv hr2 h2 he
  obtain ⟨m, z4, hl, _, hsh, _⟩ := readTxns_inv n.toNat r2 r3 [] l z3 hr3 he h4
  rw [List.nil_append] at hl
  subst hl
  exact ⟨by unfold i64R; omega, hsh⟩
end Go.Proofs.Ytnmcdifkknphgaa
