/- page.Read: what gives up, what stands in memory. -/
import Derived.Test.YtnieminnnkbneaaGreatPg
import Derived.Test.YtnieminnnkbneaaGreatProc7
import Derived.Deep.RegionHeld3
namespace Go.Proofs.YtnieminnnkbneaaGreat
open Go.RowKit

theorem take_at1 {P : Program} {md : Region.Mode} {ops : Array Oper} {Q : Exit → Act → World → Prop} {S : World → Prop} (i d : Nat) {oi : Oper} {v : Value} {fuel : Nat} {listed : Array Bool} {a : Act} {w : World} (hi : ops[i]? = some oi) (hd : oi.dst = some d)
  (hs : Region.noSelect ops = true) (hf : Region.free md ops listed i = true) (hr : (Region.ready md ops listed).contains i = true)
  (hQ : ∀ c a w, Q (.panic c) (a.put oi.dst v) w → Q (.panic c) a w) (hy : YieldsIf P ops S oi v a) (hS : S w)
  (h : wpAnyH P md ops Q S fuel (listed.setIfInBounds i true) (a.put (some d) v) w) : wpAnyH P md ops Q S (fuel + 1) listed a w := by
 refine wpAnyH_take (i := i) hi hs hf hr hQ hy hS ?_
 rw [hd]
 exact h

/-- What Read gives up by. -/
def prefusal (e : Int) : List PanicEntry := [{ v := .iface 70 (.int .i64 e), recovered := false }]

theorem may_yes (w : World) : Calls Tryz.prog 27 #[.bool true] w fun e' w' => e' = .returned (.tuple #[]) ∧ w = w' := by
 go_enter Tryz.func27, Tryz.ntmps27
 go_wp2
 go_end0
 exact ⟨rfl, rfl⟩
theorem may_no (w : World) : Calls Tryz.prog 27 #[.bool false] w fun e' w' => e' = .panicked (prefusal 3) ∧ w = w' := by
 go_enter Tryz.func27, Tryz.ntmps27
 go_wp2
 exact ⟨rfl, rfl, rfl⟩

/-- A procedure and where its code lies. -/
structure PrcC where
 p : Prc
 A : Option Addr
 c : Nat
def PrcC.cells (y : PrcC) : Array Value := procCells y.p.name y.p.args y.A y.p.code.length y.c
def PrcC.own (W : World) (base : Nat) (y : PrcC) : Prop := W.ownsRow base 109 8 (.slice y.A y.p.code.length y.c) y.p.code.length (codeCells y.p.code)
def prcsCells (l : List PrcC) : List Value := l.flatMap fun y => y.cells.toList
/-- The inner rows of procedures, pairwise apart. -/
def SepP (l : List PrcC) : Prop := ∀ (i j : Nat) (x y : PrcC), l[i]? = some x → l[j]? = some y → i ≠ j → ∀ k, (Value.slice x.A 0 0).ownBlock = some k → (Value.slice y.A 0 0).ownBlock ≠ some k

theorem sepP_nil : SepP [] := fun _ _ _ _ h => by simp at h
theorem obP {A : Option Addr} {n c n' c' k : Nat} (h : (Value.slice A n c).ownBlock = some k) : (Value.slice A n' c').ownBlock = some k := by
 cases A with
 | none => exact h
 | some a => exact h
theorem sepP_add {l : List PrcC} {X : PrcC} {W V : World} {base : Nat} (h : SepP l) (ho : ∀ x ∈ l, x.own W base) (hn : X.own V W.heap.size) : SepP (l ++ [X]) := by
 have hold : ∀ x ∈ l, ∀ k, (Value.slice x.A 0 0).ownBlock = some k → k < W.heap.size := fun x hx k e => ((ho x hx).lt k (obP e)).2
 have hnew : ∀ k, (Value.slice X.A 0 0).ownBlock = some k → W.heap.size ≤ k := fun k e => (hn.lt k (obP e)).1
 have hpart : ∀ (i : Nat) (x : PrcC), (l ++ [X])[i]? = some x → (i < l.length ∧ l[i]? = some x) ∨ (i = l.length ∧ x = X) := by
  intro i x hi
  by_cases h1 : i < l.length
  ·rw [List.getElem?_append_left h1] at hi; exact .inl ⟨h1, hi⟩
  ·rw [List.getElem?_append_right (by omega)] at hi
   have h2 : i - l.length = 0 := by
    rcases Nat.eq_zero_or_pos (i - l.length) with h | h
    ·exact h
    ·rw [List.getElem?_eq_none (by simp; omega)] at hi; cases hi
   rw [h2] at hi
   simp only [List.getElem?_cons_zero, Option.some.injEq] at hi
   exact .inr ⟨by omega, hi.symm⟩
 intro i j x y hi hj hij k
 rcases hpart i x hi with ⟨_, hi'⟩ | ⟨hi1, rfl⟩
 ·rcases hpart j y hj with ⟨_, hj'⟩ | ⟨_, rfl⟩
  ·exact h i j x y hi' hj' hij k
  ·exact fun e e2 => by have := hold x (List.mem_of_getElem? hi') k e; have := hnew k e2; omega
 ·rcases hpart j y hj with ⟨_, hj'⟩ | ⟨hj1, rfl⟩
  ·exact fun e e2 => by have := hold y (List.mem_of_getElem? hj') k e2; have := hnew k e; omega
  ·omega

theorem rd_own {w W : World} {r base size n : Nat} {s s' : Rdr} {v : Value} {e : TypeId} {xs : List Value} (hown : w.ownsRow base e size v n xs) (he : e ≠ 118) (hr : Rd w r s) (hS : RdStep w W r s') : W.ownsRow base e size v n xs :=
 owns_keep hown hS.2 (Nat.le_refl _) (fun k hk hr' => by
  obtain ⟨d, h0, _⟩ := hr
  exact owns_ne hown h0 he (hr' ▸ hk))

theorem own_grown {W V : World} {base n m size : Nat} {e : TypeId} {v v1 : Value} {xs ys : List Value} (hown : W.ownsRow base e size v n xs) (h1 : V.ownsRow 0 e size v1 m ys) (hb : ∀ k, v1.ownBlock = some k → v.ownBlock = some k ∨ k = W.heap.size) (hB : base ≤ W.heap.size) : V.ownsRow base e size v1 m ys :=
 owns_base h1 (fun k hk => by
  rcases hb k hk with h | h
  ·exact (hown.lt k h).1
  ·omega)

theorem owns_two {W V : World} {b1 b2 s1 s2 n1 n2 : Nat} {e1 e2 : TypeId} {v u : Value} {xs ys : List Value} (hv : W.ownsRow b1 e1 s1 v n1 xs) (hu : W.ownsRow b2 e2 s2 u n2 ys) (hne : e1 ≠ e2) (hg : W.grownBy V v.ownBlock) : V.ownsRow b2 e2 s2 u n2 ys := by
 refine hu.kept hg ?_
 rcases hu.2 with ⟨rfl, _⟩ | ⟨g, cap, cur, rfl, _, hh, _⟩
 ·exact .inl rfl
 ·exact .inr (fun h => owns_ne hv hh hne h.symm)

theorem Rd.grown {W V : World} {r base size n : Nat} {s : Rdr} {e : TypeId} {v : Value} {ys : List Value} (h : Rd W r s) (hown : W.ownsRow base e size v n ys) (hg : W.grownBy V v.ownBlock) (h1 : e ≠ 118) (h2 : e ≠ 5) : Rd V r s := by
 obtain ⟨d, g0, g1, g2⟩ := h
 exact ⟨d, grown_cell hg g0 (owns_ne hown g0 h1), grown_cell hg g1 (owns_ne hown g1 h2), g2⟩

/-- The reader's memory, its numbers, its rows. -/
structure RM where
 s : RS
 over : Bool
 pl : List PrcC
 P : Option Addr
 cp : Nat
 E : Option Addr
 ce : Nat
def RM.cells (m : RM) : Array Value := #[.int .i64 m.s.number, .int .i64 m.s.mark, .slice m.P m.pl.length m.cp, .slice m.E m.s.entries.length m.ce, .int .i64 m.s.frames, .string m.s.name, .string m.s.key, .bool m.over]
def RM.zero : RM := ⟨.zero, false, [], none, 0, none, 0⟩
structure RSt (w0 W : World) (rb : Nat) (m : RM) : Prop where
 hp : m.pl.map (·.p) = m.s.procs
 l : Loc W rb m.cells 74
 op : W.ownsRow w0.heap.size 54 3 (.slice m.P m.pl.length m.cp) m.pl.length (prcsCells m.pl)
 oc : ∀ y ∈ m.pl, y.own W w0.heap.size
 sep : SepP m.pl
 oe : W.ownsRow w0.heap.size 62 4 (.slice m.E m.s.entries.length m.ce) m.s.entries.length (entsCells m.s.entries)
 b : Keep w0.heap.size (· = rb) w0 W
 hr : rb < w0.heap.size

namespace RSt
variable {w0 W V : World} {rb : Nat} {m : RM}
theorem below (h : RSt w0 W rb m) (hb : Below W.heap.size W V) : RSt w0 V rb m :=
 ⟨h.hp, h.l.below hb h.l.lt, owns_mono' h.op hb, fun y hy => owns_mono' (h.oc y hy) hb, h.sep, owns_mono' h.oe hb, h.b.step (Keep.of_below hb _) h.b.size (fun _ _ h => h), h.hr⟩
theorem alloc (h : RSt w0 W rb m) (o : Obj) : RSt w0 (W.alloc o) rb m := h.below ((Below.refl _ _).alloc (Nat.le_refl _) o)
theorem drew (h : RSt w0 W rb m) : RSt w0 W.drew rb m := h.below ((Below.refl _ _).drew)
theorem rd {ob : Nat} {r r' : Rdr} (h : RSt w0 W rb m) (hR : Rd W ob r) (hS : RdStep W V ob r') (ho : w0.heap.size ≤ ob) : RSt w0 V rb m :=
 ⟨h.hp, h.l.rd hS (hR.ne h.l (by decide)), rd_own h.op (by decide) hR hS, fun y hy => rd_own (h.oc y hy) (by decide) hR hS, h.sep, rd_own h.oe (by decide) hR hS, h.b.step hS.2 h.b.size (fun i hi e => absurd hi (by omega)), h.hr⟩
/-- A cell of the reader is laid. -/
theorem put {m' : RM} (h : RSt w0 W rb m) (i : Nat) (v : Value) (hc : m'.cells = m.cells.setIfInBounds i v) (h1 : m'.pl = m.pl) (h2 : m'.P = m.P) (h3 : m'.cp = m.cp) (h4 : m'.E = m.E) (h5 : m'.ce = m.ce) (h6 : m'.s.procs = m.s.procs) (h7 : m'.s.entries = m.s.entries) : RSt w0 (W.setCell ⟨rb, i, none⟩ v) rb m' := by
 refine ⟨by rw [h1, h6]; exact h.hp, by rw [hc]; exact h.l.set i v, ?_, ?_, by rw [h1]; exact h.sep, ?_, h.b.setCell (p := ⟨rb, i, none⟩) (.inr rfl) v, h.hr⟩
 ·rw [h1, h2, h3]; exact owns_setCell (a := ⟨rb, i, none⟩) h.op (owns_ne h.op h.l (by decide)) v
 ·rw [h1]; exact fun y hy => owns_setCell (a := ⟨rb, i, none⟩) (h.oc y hy) (owns_ne (h.oc y hy) h.l (by decide)) v
 ·rw [h4, h5, h7]; exact owns_setCell (a := ⟨rb, i, none⟩) h.oe (owns_ne h.oe h.l (by decide)) v
/-- Another block of one's own is written. -/
theorem other {b : Nat} {c : Array Value} {t : TypeId} (h : RSt w0 W rb m) (hl : Loc W b c t) (h1 : 74 ≠ t) (h2 : 54 ≠ t) (h3 : 109 ≠ t) (h4 : 62 ≠ t) (hb : w0.heap.size ≤ b) (i : Nat) (v : Value) : RSt w0 (W.setCell ⟨b, i, none⟩ v) rb m :=
 ⟨h.hp, h.l.other (a := ⟨b, i, none⟩) (h.l.ne hl h1) v, owns_setCell (a := ⟨b, i, none⟩) h.op (owns_ne h.op hl h2) v, fun y hy => owns_setCell (a := ⟨b, i, none⟩) (h.oc y hy) (owns_ne (h.oc y hy) hl h3) v, h.sep, owns_setCell (a := ⟨b, i, none⟩) h.oe (owns_ne h.oe hl h4) v, h.b.setCell (p := ⟨b, i, none⟩) (.inl hb) v, h.hr⟩
/-- The row of entries has grown; it is not yet laid. -/
theorem grownE (h : RSt w0 W rb m) (hg : W.grownBy V (Value.slice m.E m.s.entries.length m.ce).ownBlock) : Loc V rb m.cells 74 ∧ V.ownsRow w0.heap.size 54 3 (.slice m.P m.pl.length m.cp) m.pl.length (prcsCells m.pl) ∧ (∀ y ∈ m.pl, y.own V w0.heap.size) ∧ Keep w0.heap.size (· = rb) w0 V :=
 ⟨h.l.grown hg (owns_ne h.oe h.l (by decide)), owns_two h.oe h.op (by decide) hg, fun y hy => owns_two h.oe (h.oc y hy) (by decide) hg, h.b.grown hg h.b.size (fun k hk => .inl (h.oe.lt k hk).1)⟩
/-- An entry is appended, and the row laid. -/
theorem addE {y : Ent} {A : Option Addr} {c : Nat} (h : RSt w0 W rb m) (ho : V.ownsRow 0 62 4 (.slice A (m.s.entries.length + 1) c) (m.s.entries.length + 1) (entsCells m.s.entries ++ y.cells.toList)) (hg : W.grownBy V (Value.slice m.E m.s.entries.length m.ce).ownBlock)
  (hb : ∀ k, (Value.slice A (m.s.entries.length + 1) c).ownBlock = some k → (Value.slice m.E m.s.entries.length m.ce).ownBlock = some k ∨ k = W.heap.size) :
  RSt w0 (V.setCell ⟨rb, 3, none⟩ (.slice A (m.s.entries.length + 1) c)) rb { m with s := { m.s with entries := m.s.entries ++ [y] }, E := A, ce := c } := by
 obtain ⟨l, op, oc, b⟩ := h.grownE hg
 have oe := own_grown h.oe ho hb h.b.size
 have hlen : (m.s.entries ++ [y]).length = m.s.entries.length + 1 := by simp
 refine ⟨h.hp, ?_, owns_setCell (a := ⟨rb, 3, none⟩) op (owns_ne op l (by decide)) _, fun z hz => owns_setCell (a := ⟨rb, 3, none⟩) (oc z hz) (owns_ne (oc z hz) l (by decide)) _, h.sep, ?_, b.setCell (p := ⟨rb, 3, none⟩) (.inr rfl) _, h.hr⟩
 ·have := l.set 3 (.slice A (m.s.entries.length + 1) c)
  rw [← hlen] at this ⊢
  exact this
 ·have := owns_setCell (a := ⟨rb, 3, none⟩) oe (owns_ne oe l (by decide)) (.slice A (m.s.entries.length + 1) c)
  have e : entsCells (m.s.entries ++ [y]) = entsCells m.s.entries ++ y.cells.toList := by simp [entsCells]
  show World.ownsRow _ _ _ _ _ _ (entsCells (m.s.entries ++ [y]))
  rw [e]
  show World.ownsRow _ _ _ _ (.slice A (m.s.entries ++ [y]).length c) (m.s.entries ++ [y]).length _
  rw [hlen]
  exact this
theorem grownP (h : RSt w0 W rb m) (hg : W.grownBy V (Value.slice m.P m.pl.length m.cp).ownBlock) : Loc V rb m.cells 74 ∧ V.ownsRow w0.heap.size 62 4 (.slice m.E m.s.entries.length m.ce) m.s.entries.length (entsCells m.s.entries) ∧ (∀ y ∈ m.pl, y.own V w0.heap.size) ∧ Keep w0.heap.size (· = rb) w0 V :=
 ⟨h.l.grown hg (owns_ne h.op h.l (by decide)), owns_two h.op h.oe (by decide) hg, fun y hy => owns_two h.op (h.oc y hy) (by decide) hg, h.b.grown hg h.b.size (fun k hk => .inl (h.op.lt k hk).1)⟩
/-- A procedure is appended, and the row laid. -/
theorem addP {X : PrcC} {A : Option Addr} {c : Nat} (h : RSt w0 W rb m) (hX : X.own W w0.heap.size) (hsep : SepP (m.pl ++ [X])) (ho : V.ownsRow 0 54 3 (.slice A (m.pl.length + 1) c) (m.pl.length + 1) (prcsCells m.pl ++ X.cells.toList)) (hg : W.grownBy V (Value.slice m.P m.pl.length m.cp).ownBlock)
  (hb : ∀ k, (Value.slice A (m.pl.length + 1) c).ownBlock = some k → (Value.slice m.P m.pl.length m.cp).ownBlock = some k ∨ k = W.heap.size) :
  RSt w0 (V.setCell ⟨rb, 2, none⟩ (.slice A (m.pl.length + 1) c)) rb { m with s := { m.s with procs := m.s.procs ++ [X.p] }, pl := m.pl ++ [X], P := A, cp := c } := by
 obtain ⟨l, oe, oc, b⟩ := h.grownP hg
 have oX : X.own V w0.heap.size := owns_two h.op hX (by decide) hg
 have op := own_grown h.op ho hb h.b.size
 have hlen : (m.pl ++ [X]).length = m.pl.length + 1 := by simp
 refine ⟨by show (m.pl ++ [X]).map (·.p) = m.s.procs ++ [X.p]; rw [List.map_append, h.hp]; rfl, ?_, ?_, fun z hz => ?_, hsep, owns_setCell (a := ⟨rb, 2, none⟩) oe (owns_ne oe l (by decide)) _, b.setCell (p := ⟨rb, 2, none⟩) (.inr rfl) _, h.hr⟩
 ·have := l.set 2 (.slice A (m.pl.length + 1) c)
  rw [← hlen] at this ⊢
  exact this
 ·have := owns_setCell (a := ⟨rb, 2, none⟩) op (owns_ne op l (by decide)) (.slice A (m.pl.length + 1) c)
  have e : prcsCells (m.pl ++ [X]) = prcsCells m.pl ++ X.cells.toList := by simp [prcsCells]
  show World.ownsRow _ _ _ _ _ _ (prcsCells (m.pl ++ [X]))
  rw [e]
  show World.ownsRow _ _ _ _ (.slice A (m.pl ++ [X]).length c) (m.pl ++ [X]).length _
  rw [hlen]
  exact this
 ·rcases List.mem_append.1 hz with hz | hz
  ·exact owns_setCell (a := ⟨rb, 2, none⟩) (oc z hz) (owns_ne (oc z hz) l (by decide)) _
  ·rw [List.mem_singleton.1 hz]
   exact owns_setCell (a := ⟨rb, 2, none⟩) oX (owns_ne oX l (by decide)) _
theorem c0 (h : RSt w0 W rb m) : W.cell? ⟨rb, 0, none⟩ = some (.int .i64 m.s.number) ∧ W.cell? ⟨rb, 1, none⟩ = some (.int .i64 m.s.mark) ∧ W.cell? ⟨rb, 2, none⟩ = some (.slice m.P m.pl.length m.cp) ∧ W.cell? ⟨rb, 3, none⟩ = some (.slice m.E m.s.entries.length m.ce) ∧
  W.cell? ⟨rb, 4, none⟩ = some (.int .i64 m.s.frames) ∧ W.cell? ⟨rb, 5, none⟩ = some (.string m.s.name) ∧ W.cell? ⟨rb, 6, none⟩ = some (.string m.s.key) ∧ W.cell? ⟨rb, 7, none⟩ = some (.bool m.over) :=
 ⟨h.l.cell 0, h.l.cell 1, h.l.cell 2, h.l.cell 3, h.l.cell 4, h.l.cell 5, h.l.cell 6, h.l.cell 7⟩
end RSt

/-- What a kind's reading answers. -/
def RPost (w0 : World) (rb ob : Nat) (over : Bool) (q : Option (RS × Rdr)) (e : Ending) (w' : World) : Prop :=
 (∀ s' r', q = some (s', r') → e = .returned (.tuple #[]) ∧ (∃ m', m'.s = s' ∧ m'.over = over ∧ RSt w0 w' rb m') ∧ Rd w' ob r') ∧ (q = none → e = .panicked (prefusal 3) ∧ Keep w0.heap.size (· = rb) w0 w')

theorem RPost.no {w0 w' : World} {rb ob : Nat} {over : Bool} {q : Option (RS × Rdr)} (h : q = none) (hb : Keep w0.heap.size (· = rb) w0 w') : RPost w0 rb ob over q (.panicked (prefusal 3)) w' :=
 ⟨fun _ _ h' => (by rw [h] at h'; cases h'), fun _ => ⟨rfl, hb⟩⟩
theorem RPost.yes {w0 w' : World} {rb ob : Nat} {over : Bool} {q : Option (RS × Rdr)} {s' : RS} {r' : Rdr} {m' : RM} (h : q = some (s', r')) (hs : m'.s = s') (ho : m'.over = over) (hm : RSt w0 w' rb m') (hR : Rd w' ob r') : RPost w0 rb ob over q (.returned (.tuple #[])) w' :=
 ⟨fun _ _ h' => (by rw [h] at h'; cases h'; exact ⟨rfl, ⟨m', hs, ho, hm⟩, hR⟩), fun h' => (by rw [h] at h'; cases h')⟩

theorem infoProc : (Tryz.prog.info? 54).map (fun i => (i.zero, i.size, i.bytes)) = some (some (.agg #[.string ⟨#[]⟩, .int .i64 0, .slice none 0 0]), 3, 48) := by kernel_rfl
theorem infoEntry : (Tryz.prog.info? 62).map (fun i => (i.zero, i.size, i.bytes)) = some (some (.agg #[.string ⟨#[]⟩, .int .i64 0, .int .i64 0, .string ⟨#[]⟩]), 4, 48) := by kernel_rfl

set_option maxHeartbeats 2000000 in
theorem rhead_any (w0 : World) (rb ob : Nat) (m : RM) (r : Rdr) (all : Int) (W : World) (h : RSt w0 W rb m) (hR : Rd W ob r) (ho : w0.heap.size ≤ ob) (hm : m.over = false) :
  Calls Tryz.prog 52 #[.pointer (some ⟨rb, 0, none⟩), .pointer (some ⟨ob, 0, none⟩), .int .i64 all] W (RPost w0 rb ob false (pgHead m.s r)) := by
 obtain ⟨a, r1, h1⟩ : ∃ a r1, r.number = (a, r1) := ⟨_, _, rfl⟩
 obtain ⟨b, r2, h2⟩ : ∃ b r2, r1.number = (b, r2) := ⟨_, _, rfl⟩
 have n1 := fun W hW => rnumber_any ob r W hW
 have n2 := fun W hW => rnumber_any ob r1 W hW
 have g1 := number_nonneg r
 have g2 := number_nonneg r1
 rw [h1] at n1 g1
 rw [h2] at n2 g2
 simp only at n1 n2 g1 g2
 obtain ⟨q, hq⟩ : ∃ q, q = pgHead m.s r := ⟨_, rfl⟩
 have hq' := hq
 unfold pgHead at hq'
 rw [h1] at hq'
 simp only [h2] at hq'
 unfold maxNum at hq'
 rw [← hq]
 have HQ := Lib.hid hq'
 have N1 := Lib.hid n1
 have N2 := Lib.hid n2
 have HM := Lib.hid hm
 clear hq hq' n1 n2 h1 h2 hm
 go_enter Tryz.func52, Tryz.ntmps52
 go_wp2_with fail
 refine (N1.out _ hR).mono ?_; rintro e w1 ⟨rfl, S1⟩
 have D1 := h.rd hR S1 ho
 clear h hR
 go_wp2_with fail
 refine (N2.out _ S1.1).mono ?_; rintro e w2 ⟨rfl, S2⟩
 have D2 := D1.rd S1.1 S2 ho
 obtain ⟨k0, k1, k2, k3, k4, k5, k6, k7⟩ := D2.c0
 have f0 := D2.l.free 0
 have f1 := D2.l.free 1
 obtain ⟨f, hf⟩ : ∃ f, f = m.s.frames := ⟨_, rfl⟩
 have D3 := D2.put (m' := { m with s := { m.s with number := a } }) 0 (.int .i64 a) rfl rfl rfl rfl rfl rfl rfl rfl
 have D4 := D3.put (m' := { m with s := { m.s with number := a, mark := b } }) 1 (.int .i64 b) rfl rfl rfl rfl rfl rfl rfl rfl
 have R4 := (S2.1.other D2.l (by decide) (by decide) 0 (.int .i64 a)).other D3.l (by decide) (by decide) 1 (.int .i64 b)
 have hq := HQ.out
 rw [← hf] at k4 hq
 have HFF := Lib.hid hf
 have HQ2 := Lib.hid hq
 clear S1 D1 S2 D3 HQ hq hf N1 N2 k2 k3 k5 k6 k7
 rcases (by omega : (f = 0 ∧ 1 ≤ a ∧ a ≤ 281474976710655 ∧ b ≤ 281474976710655) ∨ ¬ (f = 0 ∧ 1 ≤ a ∧ a ≤ 281474976710655 ∧ b ≤ 281474976710655)) with hc | hc
 ·have hq := HQ2.out
  rw [if_pos hc] at hq
  have HQ3 := Lib.hid hq
  obtain ⟨hf0, ha1, ha2, hb2⟩ := hc
  have t0 : ((f : Int) == 0) = true := by simp [hf0]
  have HF := Lib.hid hf0
  clear hq HQ2 hf0
  go_wp2_with fail
  refine (may_yes _).mono ?_; rintro e w3 ⟨rfl, rfl⟩
  go_wp2
  go_end0
  exact RPost.yes (m' := { m with s := { m.s with number := a, mark := b } }) HQ3.out (by have e := HFF.out; subst e; rfl) HM.out D4 R4
 ·have hq := HQ2.out
  rw [if_neg hc] at hq
  have HQ3 := Lib.hid hq
  clear hq HQ2
  by_cases hf0 : f = 0
  ·have t0 : ((f : Int) == 0) = true := by simp [hf0]
   by_cases ha1 : 1 ≤ a
   ·by_cases ha2 : a ≤ 281474976710655
    ·have t3 : decide (b ≤ 281474976710655) = false := by simp; omega
     have HF := Lib.hid hf0
     clear hf0 hc
     go_wp2_with fail
     refine (may_no _).mono ?_; rintro e w3 ⟨rfl, rfl⟩
     go_wp2
     exact ⟨rfl, .no HQ3.out D4.b⟩
    ·have t2 : decide (a ≤ 281474976710655) = false := by simp; omega
     clear hf0 hc
     go_wp2_with fail
     refine (may_no _).mono ?_; rintro e w3 ⟨rfl, rfl⟩
     go_wp2
     exact ⟨rfl, .no HQ3.out D4.b⟩
   ·have t1 : decide (1 ≤ a) = false := by simp; omega
    clear hf0 hc
    go_wp2_with fail
    refine (may_no _).mono ?_; rintro e w3 ⟨rfl, rfl⟩
    go_wp2
    exact ⟨rfl, .no HQ3.out D4.b⟩
  ·have t0 : ((f : Int) == 0) = false := by simpa using hf0
   clear hf0 hc
   go_wp2_with fail
   refine (may_no _).mono ?_; rintro e w3 ⟨rfl, rfl⟩
   go_wp2
   exact ⟨rfl, .no HQ3.out D4.b⟩

set_option maxHeartbeats 2000000 in
theorem rends_of (w0 : World) (rb ob : Nat) (m : RM) (r : Rdr) (all : Int) (W : World) (h : RSt w0 W rb m) (hR : Rd W ob r) (ho : w0.heap.size ≤ ob) :
  Calls Tryz.prog 55 #[.pointer (some ⟨rb, 0, none⟩), .pointer (some ⟨ob, 0, none⟩), .int .i64 all] W (RPost w0 rb ob true (pgEnd m.s r)) := by
 obtain ⟨a, r1, h1⟩ : ∃ a r1, r.number = (a, r1) := ⟨_, _, rfl⟩
 obtain ⟨b, r2, h2⟩ : ∃ b r2, r1.number = (b, r2) := ⟨_, _, rfl⟩
 have n1 := fun W hW => rnumber_any ob r W hW
 have n2 := fun W hW => rnumber_any ob r1 W hW
 rw [h1] at n1
 rw [h2] at n2
 simp only at n1 n2
 obtain ⟨q, hq⟩ : ∃ q, q = pgEnd m.s r := ⟨_, rfl⟩
 have hq' := hq
 have hpl : m.s.procs.length = m.pl.length := by rw [← h.hp, List.length_map]
 unfold pgEnd at hq'
 rw [h1] at hq'
 simp only [h2] at hq'
 rw [hpl] at hq'
 rw [← hq]
 have HQ := Lib.hid hq'
 have N1 := Lib.hid n1
 have N2 := Lib.hid n2
 clear hq hq' n1 n2 h1 h2 hpl
 go_enter Tryz.func55, Tryz.ntmps55
 go_wp2_with fail
 refine (N1.out _ hR).mono ?_; rintro e w1 ⟨rfl, S1⟩
 have D1 := h.rd hR S1 ho
 clear h hR
 go_wp2_with fail
 refine (N2.out _ S1.1).mono ?_; rintro e w2 ⟨rfl, S2⟩
 have D2 := D1.rd S1.1 S2 ho
 obtain ⟨k0, k1, k2, k3, k4, k5, k6, k7⟩ := D2.c0
 have f7 := D2.l.free 7
 have D3 := D2.put (m' := { m with over := true }) 7 (.bool true) rfl rfl rfl rfl rfl rfl rfl rfl
 have R3 := S2.1.other D2.l (by decide) (by decide) 7 (.bool true)
 obtain ⟨f, hf⟩ : ∃ f, f = m.s.frames := ⟨_, rfl⟩
 obtain ⟨np, hnp⟩ : ∃ np, np = m.pl.length := ⟨_, rfl⟩
 obtain ⟨ne, hne⟩ : ∃ ne, ne = m.s.entries.length := ⟨_, rfl⟩
 have hq := HQ.out
 rw [← hf, ← hnp, ← hne] at hq
 rw [← hf] at k4
 rw [← hnp] at k2
 rw [← hne] at k3
 have HQ2 := Lib.hid hq
 clear S1 D1 S2 HQ hq hf hnp hne N1 N2 k0 k1 k5 k6
 rcases (by omega : (0 < f ∧ a = np ∧ b = ne) ∨ ¬ (0 < f ∧ a = np ∧ b = ne)) with hc | hc
 ·have hq := HQ2.out
  rw [if_pos hc] at hq
  have HQ3 := Lib.hid hq
  obtain ⟨hf0, ha1, hb1⟩ := hc
  have t0 : (0 : Int) < (f : Int) := by omega
  have t1 : (a == (np : Int)) = true := by simp [ha1]
  have t2 : (b == (ne : Int)) = true := by simp [hb1]
  clear hq HQ2 hf0 ha1 hb1
  go_wp2_with fail
  refine (may_yes _).mono ?_; rintro e w3 ⟨rfl, rfl⟩
  go_wp2
  go_end0
  exact RPost.yes (m' := { m with over := true }) HQ3.out rfl rfl D3 R3
 ·have hq := HQ2.out
  rw [if_neg hc] at hq
  have HQ3 := Lib.hid hq
  clear hq HQ2
  by_cases hf0 : 0 < f
  ·have t0 : (0 : Int) < (f : Int) := by omega
   by_cases ha1 : a = np
   ·have t1 : (a == (np : Int)) = true := by simp [ha1]
    have t2 : (b == (ne : Int)) = false := by
     simp only [beq_eq_false_iff_ne]
     exact fun h => hc ⟨hf0, ha1, h⟩
    clear hf0 hc ha1
    go_wp2_with fail
    refine (may_no _).mono ?_; rintro e w3 ⟨rfl, rfl⟩
    go_wp2
    exact ⟨rfl, .no HQ3.out D2.b⟩
   ·have t1 : (a == (np : Int)) = false := by simpa using ha1
    clear hf0 hc ha1
    go_wp2_with fail
    refine (may_no _).mono ?_; rintro e w3 ⟨rfl, rfl⟩
    go_wp2
    exact ⟨rfl, .no HQ3.out D2.b⟩
  ·obtain rfl : f = 0 := by omega
   rw [show ((0 : Nat) : Int) = 0 from rfl] at k4
   clear hf0 hc
   go_wp2_with fail
   refine (may_no _).mono ?_; rintro e w3 ⟨rfl, rfl⟩
   go_wp2
   exact ⟨rfl, .no HQ3.out D2.b⟩
end Go.Proofs.YtnieminnnkbneaaGreat
