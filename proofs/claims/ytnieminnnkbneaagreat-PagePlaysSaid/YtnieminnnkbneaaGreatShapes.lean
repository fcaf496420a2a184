/- Walk of proc.shapes (printed by wip/gen_shapes.py). -/
import Derived.Test.YtnieminnnkbneaaGreatProc1
import Derived.Laws.EntriesVeiled
import Derived.Deep.Cut
import Derived.Deep.CutBlock
namespace Go.Proofs.YtnieminnnkbneaaGreat
open Go.RowKit

theorem wp_abs {P : Program} {c : Code} {Q : Exit → Act → World → Prop} {a : Act} {w : World} (R : World → Prop) (h : R w) (k : ∀ W, R W → c.wp P Q a W) : c.wp P Q a w := k w h
theorem wp_absA {P : Program} {c : Code} {Q : Exit → Act → World → Prop} {a : Act} {w : World} (R : Act → Prop) (h : R a) (k : ∀ A, R A → c.wp P Q A w) : c.wp P Q a w := k a h
theorem rounds_abs {P : Program} {c : Code} {Q : Exit → Act → World → Prop} {n : Nat} {a : Act} {w : World} (R : World → Prop) (h : R w) (k : ∀ W, R W → Code.rounds P c Q n a W) : Code.rounds P c Q n a w := k w h
theorem Loc.new' {w : World} {b : Nat} {c : Array Value} {t : TypeId} (h : b = w.heap.size) : Loc (w.alloc (.cells c t)) b c t := by subst h; exact Loc.new w c t
theorem Loc.set' {w : World} {b o : Nat} {c0 c : Array Value} {t : TypeId} {v : Value} (h : Loc w b c0 t) (hc : c0.setIfInBounds o v = c) : Loc (w.setCell ⟨b, o, none⟩ v) b c t := by subst hc; exact h.set o v
theorem Loc.other' {w : World} {b b' o : Nat} {c : Array Value} {t : TypeId} {v : Value} (hne : b ≠ b') (h : Loc w b c t) : Loc (w.setCell ⟨b', o, none⟩ v) b c t := h.other hne v
theorem Below.setCell' {B : Nat} {a w : World} {b o : Nat} (hp : B ≤ b) (u : Value) (h : Below B a w) : Below B a (w.setCell ⟨b, o, none⟩ u) := h.setCell hp u
theorem Below.allocS {B : Nat} {a w : World} {o : Obj} (hB : B ≤ a.heap.size) (h : Below B a w) : Below B a (w.alloc o) := h.alloc (Nat.le_trans hB h.size) o
theorem Below.alloc' {B : Nat} {a w : World} (hB : B ≤ w.heap.size) (o : Obj) (h : Below B a w) : Below B a (w.alloc o) := h.alloc hB o

/-- The cells of an operation's fields, as they lie. -/
def shapeCells (op : Int) : Array Value := ((fieldsOf op).flatMap (fun f => f.cells.toList)).toArray

def set2 (c : Array Value) (op g : Nat) : Array Value :=
  (c.setIfInBounds (2 * op) (.slice (some ⟨g, 0, none⟩) (fieldsOf op).length (fieldsOf op).length)).setIfInBounds (2 * op + 1) (.bool (hasVal op))

/-- A table of shapes in which these operations stand. -/
def Shp (W : World) (B : Nat) (c : Array Value) (done : List Nat) : Prop :=
  c.size = 34 ∧ (∀ i (h : i < c.size), c[i].oneCell' = true) ∧ (c[32]? = some (.slice none 0 0) ∧ c[33]? = some (.bool false)) ∧ ∀ op ∈ done, ∃ g, B ≤ g ∧ Loc W g (shapeCells op) 192 ∧ c[2 * op]? = some (.slice (some ⟨g, 0, none⟩) (fieldsOf op).length (fieldsOf op).length) ∧ c[2 * op + 1]? = some (.bool (hasVal op))

theorem Shp.keep {W W' : World} {B : Nat} {c : Array Value} {done : List Nat} (h : Shp W B c done) (hk : ∀ g cs t, B ≤ g → Loc W g cs t → Loc W' g cs t) : Shp W' B c done :=
  ⟨h.1, h.2.1, h.2.2.1, fun op ho => let ⟨g, h1, h2, h3⟩ := h.2.2.2 op ho; ⟨g, h1, hk _ _ _ h1 h2, h3⟩⟩

theorem Shp.mono {W : World} {B B' : Nat} {c : Array Value} {done : List Nat} (h : Shp W B c done) (hB : B' ≤ B) : Shp W B' c done :=
  ⟨h.1, h.2.1, h.2.2.1, fun op ho => let ⟨g, h1, h2, h3⟩ := h.2.2.2 op ho; ⟨g, Nat.le_trans hB h1, h2, h3⟩⟩

theorem one_set {c : Array Value} (h : ∀ i (h : i < c.size), c[i].oneCell' = true) (o : Nat) (v : Value) (hv : v.oneCell' = true) : ∀ i (h : i < (c.setIfInBounds o v).size), (c.setIfInBounds o v)[i].oneCell' = true := by
  intro i hi
  simp at hi
  simp only [Array.getElem_setIfInBounds hi]
  split
  · exact hv
  · exact h i hi

theorem one_of_all {c : Array Value} (h : c.all (·.oneCell') = true) : ∀ i (h : i < c.size), c[i].oneCell' = true := fun i hi => Array.all_eq_true.1 h i hi
theorem all_of_one {c : Array Value} (h : ∀ i (h : i < c.size), c[i].oneCell' = true) : c.all (·.oneCell') = true := Array.all_eq_true.2 h

theorem Shp.add {W : World} {B : Nat} {c : Array Value} {done : List Nat} (h : Shp W B c done) (op g : Nat) (hop : op ≤ 15) (hB : B ≤ g) (hl : Loc W g (shapeCells op) 192) : Shp W B (set2 c op g) (op :: done) := by
  obtain ⟨h1, h2, ⟨hz1, hz2⟩, h3⟩ := h
  refine ⟨by simp [set2, h1], one_set (one_set h2 _ _ rfl) _ _ rfl, ⟨?_, ?_⟩, fun o ho => ?_⟩
  · unfold set2
    rw [Array.getElem?_setIfInBounds_ne (by omega), Array.getElem?_setIfInBounds_ne (by omega)]; exact hz1
  · unfold set2
    rw [Array.getElem?_setIfInBounds_ne (by omega), Array.getElem?_setIfInBounds_ne (by omega)]; exact hz2
  by_cases he : o = op
  · subst he
    refine ⟨g, hB, hl, ?_, ?_⟩
    · unfold set2
      rw [Array.getElem?_setIfInBounds_ne (by omega), Array.getElem?_setIfInBounds_self_of_lt (by omega)]
    · unfold set2
      rw [Array.getElem?_setIfInBounds_self_of_lt (by simp; omega)]
  · have ho' : o ∈ done := by
      rcases List.mem_cons.1 ho with h | h
      · exact absurd h he
      · exact h
    obtain ⟨g', k1, k2, k3, k4⟩ := h3 o ho'
    refine ⟨g', k1, k2, ?_, ?_⟩
    · unfold set2
      rw [Array.getElem?_setIfInBounds_ne (by omega), Array.getElem?_setIfInBounds_ne (by omega)]; exact k3
    · unfold set2
      rw [Array.getElem?_setIfInBounds_ne (by omega), Array.getElem?_setIfInBounds_ne (by omega)]; exact k4

/-- Where the walk stands: the result's block at N, the fields' blocks behind it, the table at N + 8; the list that the next loop goes through at lb. -/
def ShR (w : World) (N : Nat) (done : List Nat) (lb : Nat) (lits : Array Value) (W : World) : Prop :=
  ∃ c z, Below N w W ∧ N + 9 ≤ W.heap.size ∧ N + 9 ≤ lb ∧ Loc W lb lits 3 ∧ Loc W N z 184 ∧ z.size = 34 ∧ Loc W (N + 1 + 1 + 1 + 1 + 1 + 1 + 1 + 1) c 184 ∧ Shp W (N + 9) c done ∧
    Loc W (N + 1) (Fld.cells .a) 192 ∧ Loc W (N + 1 + 1) (Fld.cells .b) 192 ∧ Loc W (N + 1 + 1 + 1) (Fld.cells .c) 192 ∧ Loc W (N + 1 + 1 + 1 + 1) (Fld.cells .arg) 192 ∧ Loc W (N + 1 + 1 + 1 + 1 + 1) (Fld.cells .how) 192 ∧ Loc W (N + 1 + 1 + 1 + 1 + 1 + 1) (Fld.cells .many) 192 ∧ Loc W (N + 1 + 1 + 1 + 1 + 1 + 1 + 1) (Fld.cells .skip) 192


theorem ShR.round {w W : World} {N : Nat} {done : List Nat} {lb : Nat} {lits : Array Value} (h : ShR w N done lb lits W) (op : Nat) (hop : op ≤ 15) (hz : N + 9 ≤ W.heap.size := by omega) :
    ShR w N (op :: done) lb lits (((W.setCell ⟨N + 1 + 1 + 1 + 1 + 1 + 1 + 1 + 1, 2 * op, none⟩ (.slice (some ⟨W.heap.size, 0, none⟩) (fieldsOf op).length (fieldsOf op).length)).setCell ⟨N + 1 + 1 + 1 + 1 + 1 + 1 + 1 + 1, 2 * op + 1, none⟩ (.bool (hasVal op))).alloc (.cells (shapeCells op) 192)) := by
  obtain ⟨c, z, bl, hz, hlb, LB, LN, hzs, L8, hS, Fa, Fb, Fc, Farg, Fhow, Fmany, Fskip⟩ := h
  have ho : ∀ b cs t (v1 v2 : Value) o1 o2 (ob : Obj), b ≠ N + 1 + 1 + 1 + 1 + 1 + 1 + 1 + 1 → Loc W b cs t → Loc (((W.setCell ⟨N + 1 + 1 + 1 + 1 + 1 + 1 + 1 + 1, o1, none⟩ v1).setCell ⟨N + 1 + 1 + 1 + 1 + 1 + 1 + 1 + 1, o2, none⟩ v2).alloc ob) b cs t := fun b cs t v1 v2 o1 o2 ob hb hl =>
    (Loc.other' hb (Loc.other' hb hl)).alloc _
  have hsz : ((W.setCell ⟨N + 1 + 1 + 1 + 1 + 1 + 1 + 1 + 1, 2 * op, none⟩ (.slice (some ⟨W.heap.size, 0, none⟩) (fieldsOf op).length (fieldsOf op).length)).setCell ⟨N + 1 + 1 + 1 + 1 + 1 + 1 + 1 + 1, 2 * op + 1, none⟩ (.bool (hasVal op))).heap.size = W.heap.size := by simp [World.setCell]
  refine ⟨set2 c op W.heap.size, z, ?_, ?_, hlb, ho _ _ _ _ _ _ _ _ (by omega) LB, ho _ _ _ _ _ _ _ _ (by omega) LN, hzs, ?_, ?_, ho _ _ _ _ _ _ _ _ (by omega) Fa, ho _ _ _ _ _ _ _ _ (by omega) Fb, ho _ _ _ _ _ _ _ _ (by omega) Fc, ho _ _ _ _ _ _ _ _ (by omega) Farg, ho _ _ _ _ _ _ _ _ (by omega) Fhow, ho _ _ _ _ _ _ _ _ (by omega) Fmany, ho _ _ _ _ _ _ _ _ (by omega) Fskip⟩
  · exact Below.alloc' (by rw [hsz]; omega) _ (Below.setCell' (by omega) _ (Below.setCell' (by omega) _ bl))
  · simp; omega
  · exact (Loc.set' (Loc.set' L8 rfl) rfl).alloc _
  · refine (hS.keep (fun g cs t hg hl => ho _ _ _ _ _ _ _ _ (by omega) hl)).add op W.heap.size hop (by omega) (Loc.new' hsz.symm)


theorem ShR.lit {w W : World} {N : Nat} {done : List Nat} {lb : Nat} {lits : Array Value} (h : ShR w N done lb lits W) (lits' : Array Value) (hz : N + 9 ≤ W.heap.size) : ShR w N done W.heap.size lits' (W.alloc (.cells lits' 3)) := by
  obtain ⟨c, z, bl, _, hlb, LB, LN, hzs, L8, hS, Fa, Fb, Fc, Farg, Fhow, Fmany, Fskip⟩ := h
  exact ⟨c, z, Below.alloc' (by omega) _ bl, by simp; omega, hz, Loc.new W _ _, LN.alloc _, hzs, L8.alloc _, hS.keep (fun g cs t _ hl => hl.alloc _), Fa.alloc _, Fb.alloc _, Fc.alloc _, Farg.alloc _, Fhow.alloc _, Fmany.alloc _, Fskip.alloc _⟩

theorem cell_getD {W : World} {b : Nat} {c : Array Value} {t : TypeId} (h : Loc W b c t) (o : Nat) (ho : o < c.size) : ∃ v, W.cell? ⟨b, o, none⟩ = some v :=
  ⟨c[o], by rw [h.cell o]; simp [ho]⟩


theorem eval_tmp (a : Act) (t : Nat) : a.eval (.tmp t) = a.tmps.getD t undef := rfl
theorem getD_put_same (a : Act) (d : Nat) (v : Value) (h : d < a.tmps.size) : (a.put (some d) v).tmps.getD d undef = v := by simp [Act.put, h]
theorem getD_put_other (a : Act) (d t : Nat) (v : Value) (h : d ≠ t) : (a.put (some d) v).tmps.getD t undef = a.tmps.getD t undef := by simp [Act.put, Array.getElem?_setIfInBounds_ne h]
theorem put_defers (a : Act) (d : Nat) (v : Value) : (a.put (some d) v).defers = a.defers := rfl

theorem infShapes : (Tryz.prog.info? 184).map (·.size) = some 34 := by kernel_rfl

/-- The last statement: the table is copied into the result. -/
theorem shapes_copy {w W : World} {N : Nat} {done : List Nat} {lb : Nat} {lits : Array Value} (hN : N = w.heap.size) (h : ShR w N done lb lits W) {act : Act} (e8 : act.tmps.getD 8 undef = .pointer (some ⟨N + 1 + 1 + 1 + 1 + 1 + 1 + 1 + 1, 0, none⟩))
    (e0 : act.tmps.getD 0 undef = .pointer (some ⟨N, 0, none⟩)) (esz : act.tmps.size = 101) {Q : Exit → Act → World → Prop} {ops : Array Oper} {o1 o2 : Oper} (h1 : o1.op = .load 184 (.tmp 8)) (h2 : o2.op = .store 184 (.tmp 0) (.tmp 100))
    (g1 : o1.guard = none) (g2 : o2.guard = none) (d1 : o1.dst = some 100) (d2 : o2.dst = none)
    (hQ : ∀ c, Shp (W.setRow N c) w.heap.size c done → Below w.heap.size w (W.setRow N c) → (W.setRow N c).heap[N]? = some (.cells c 184 (0, 0)) → c.size = 34 → Q .normal (act.put (some 100) (.agg c)) (W.setRow N c)) :
    wpList Tryz.prog ops Q [o1, o2] act W := by
  obtain ⟨c, z, bl, hz, hlb, LB, LN, hzs, L8, hS, Fa, Fb, Fc, Farg, Fhow, Fmany, Fskip⟩ := h
  refine wpList_load_row g1 184 (.tmp 8) h1 _ (by rw [eval_tmp]; exact e8) 184 c (0, 0) _ L8 Tryz.underlying184 rfl (by rw [hS.1]; exact infShapes) ?_
  rw [d1]
  refine wpList_store_row g2 184 (.tmp 0) (.tmp 100) h2 N c (by rw [eval_tmp, getD_put_other _ _ _ _ (by decide)]; exact e0) (by rw [eval_tmp, getD_put_same _ _ _ (by omega)]) 184 z LN (by rw [hS.1]; exact infShapes) (by rw [hS.1]; exact hzs) (all_of_one hS.2.1) ?_
  rw [d2]
  refine wpList_nil ?_
  have hrow := setRow_heap W N z c 184 _ LN
  subst hN
  refine hQ c (hS.keep (fun g cs t hg hl => ?_) |>.mono (by omega)) ⟨bl.os, bl.tape, bl.output, by rw [size_setRow]; exact bl.size, fun k hk => ?_⟩ hrow hS.1
  · show (W.setRow _ _).heap[g]? = _
    rw [setRow_other W _ g c (by omega)]; exact hl
  · rw [setRow_other W _ k c (by omega)]; exact bl.block k hk

set_option maxRecDepth 100000 in
set_option maxHeartbeats 8000000 in
theorem shapes_any (w : World) :
    Calls Tryz.prog 111 #[] w fun e w' => ∃ c, e = .returned (.agg c) ∧ Shp w' w.heap.size c [13, 12, 11, 10, 9, 8, 7, 6, 15, 5, 4, 14, 3, 2, 1] ∧ Below w.heap.size w w' := by
  go_enter Tryz.func111, Tryz.ntmps111
  obtain ⟨N, hN⟩ : ∃ N, N = w.heap.size := ⟨_, rfl⟩
  go_wp2
  refine wp_abs (ShR w w.heap.size [2, 1] (w.heap.size + 1 + 1 + 1 + 1 + 1 + 1 + 1 + 1 + 1 + 1 + 1) #[.int .i64 3, .int .i64 14, .int .i64 4]) ?_ ?_
  · refine ⟨?sc, ?szz, ?sbl, ?sz, ?sl, ?sLB, ?sLN, ?szs, ?sL8, ?sS, ?sfa, ?sfb, ?sfc, ?sfarg, ?sfhow, ?sfmany, ?sfskip⟩
    case sL8 => repeat' (first | (refine Loc.new' ?_; simp; done) | refine Loc.alloc ?_ _)
    case sLN => repeat' (first | exact Loc.new' rfl | refine Loc.alloc ?_ _)
    case sLB => repeat' (first | (refine Loc.new' ?_; simp; done) | refine Loc.alloc ?_ _)
    case szs => rfl
    case sz => simp
    case sl => omega
    case sbl => repeat' (first | exact Below.refl _ _ | refine Below.allocS (Nat.le_refl _) ?_)
    case sS =>
      refine ⟨rfl, one_of_all (by simp [Value.oneCell']), ⟨rfl, rfl⟩, fun op ho => ?_⟩
      rcases List.mem_cons.1 ho with rfl | ho
      · refine ⟨w.heap.size + 10, by omega, ?_, rfl, rfl⟩
        repeat' (first | (refine Loc.new' ?_; simp; done) | refine Loc.alloc ?_ _)
      · obtain rfl := List.mem_singleton.1 ho
        refine ⟨w.heap.size + 9, by omega, ?_, rfl, rfl⟩
        repeat' (first | (refine Loc.new' ?_; simp; done) | refine Loc.alloc ?_ _)
    all_goals repeat' (first | (refine Loc.new' ?_; simp; done) | refine Loc.alloc ?_ _)
  rw [← hN]
  have HN := Lib.hid hN
  clear hN
  intro W0 HSH0; have HSH := Lib.hid HSH0; obtain ⟨c, z, bl, hz, hlb, LB, LN, hzs, L8, hS, Fa, Fb, Fc, Farg, Fhow, Fmany, Fskip⟩ := HSH0
  refine wp_loop_rounds 4 ?_
  have a0 := Fa.cell 0; have a1 := Fa.cell 1; have a2 := Fa.cell 2
  have b0 := Fb.cell 0; have b1 := Fb.cell 1; have b2 := Fb.cell 2
  simp [Fld.cells, Fld.atFn, Fld.mayFn, Fld.one] at a0 a1 a2 b0 b1 b2
  have lb0 := LB.cell 0
  have lb1 := LB.cell 1
  have lb2 := LB.cell 2
  simp at lb0 lb1 lb2
  obtain ⟨_, x6⟩ := cell_getD L8 6 (by rw [hS.1]; decide); obtain ⟨_, x7⟩ := cell_getD L8 7 (by rw [hS.1]; decide)
  have y6 := L8.free 6; have y7 := L8.free 7
  have q0 := LB.lt; have q8 := L8.lt; have q81 : N + 1 + 1 + 1 + 1 + 1 + 1 + 1 + 1 < W0.heap.size + 1 := (by omega); have qa := Fa.lt; have qb := Fb.lt
  clear LB LN L8 hS bl Fa Fb Fc Farg Fhow Fmany Fskip
  rw [rounds_succ]; go_wp2
  refine rounds_abs (ShR w N [3, 2, 1] (N + 1 + 1 + 1 + 1 + 1 + 1 + 1 + 1 + 1 + 1 + 1) #[.int .i64 3, .int .i64 14, .int .i64 4]) ?_ ?_
  · exact ShR.round HSH.out 3 (by decide) hz
  clear a0 a1 a2 b0 b1 b2 lb0 lb1 lb2 x6 x7 y6 y7 hz hlb hzs q0 q8 q81 qa qb HSH
  intro W1 HSH0; have HSH := Lib.hid HSH0; obtain ⟨c, z, bl, hz, hlb, LB, LN, hzs, L8, hS, Fa, Fb, Fc, Farg, Fhow, Fmany, Fskip⟩ := HSH0
  have a0 := Fa.cell 0; have a1 := Fa.cell 1; have a2 := Fa.cell 2
  have b0 := Fb.cell 0; have b1 := Fb.cell 1; have b2 := Fb.cell 2
  simp [Fld.cells, Fld.atFn, Fld.mayFn, Fld.one] at a0 a1 a2 b0 b1 b2
  have lb0 := LB.cell 0
  have lb1 := LB.cell 1
  have lb2 := LB.cell 2
  simp at lb0 lb1 lb2
  obtain ⟨_, x28⟩ := cell_getD L8 28 (by rw [hS.1]; decide); obtain ⟨_, x29⟩ := cell_getD L8 29 (by rw [hS.1]; decide)
  have y28 := L8.free 28; have y29 := L8.free 29
  have q0 := LB.lt; have q8 := L8.lt; have q81 : N + 1 + 1 + 1 + 1 + 1 + 1 + 1 + 1 < W1.heap.size + 1 := (by omega); have qa := Fa.lt; have qb := Fb.lt
  clear LB LN L8 hS bl Fa Fb Fc Farg Fhow Fmany Fskip
  rw [rounds_succ]; go_wp2
  refine rounds_abs (ShR w N [14, 3, 2, 1] (N + 1 + 1 + 1 + 1 + 1 + 1 + 1 + 1 + 1 + 1 + 1) #[.int .i64 3, .int .i64 14, .int .i64 4]) ?_ ?_
  · exact ShR.round HSH.out 14 (by decide) hz
  clear a0 a1 a2 b0 b1 b2 lb0 lb1 lb2 x28 x29 y28 y29 hz hlb hzs q0 q8 q81 qa qb HSH
  intro W2 HSH0; have HSH := Lib.hid HSH0; obtain ⟨c, z, bl, hz, hlb, LB, LN, hzs, L8, hS, Fa, Fb, Fc, Farg, Fhow, Fmany, Fskip⟩ := HSH0
  have a0 := Fa.cell 0; have a1 := Fa.cell 1; have a2 := Fa.cell 2
  have b0 := Fb.cell 0; have b1 := Fb.cell 1; have b2 := Fb.cell 2
  simp [Fld.cells, Fld.atFn, Fld.mayFn, Fld.one] at a0 a1 a2 b0 b1 b2
  have lb0 := LB.cell 0
  have lb1 := LB.cell 1
  have lb2 := LB.cell 2
  simp at lb0 lb1 lb2
  obtain ⟨_, x8⟩ := cell_getD L8 8 (by rw [hS.1]; decide); obtain ⟨_, x9⟩ := cell_getD L8 9 (by rw [hS.1]; decide)
  have y8 := L8.free 8; have y9 := L8.free 9
  have q0 := LB.lt; have q8 := L8.lt; have q81 : N + 1 + 1 + 1 + 1 + 1 + 1 + 1 + 1 < W2.heap.size + 1 := (by omega); have qa := Fa.lt; have qb := Fb.lt
  clear LB LN L8 hS bl Fa Fb Fc Farg Fhow Fmany Fskip
  rw [rounds_succ]; go_wp2
  refine rounds_abs (ShR w N [4, 14, 3, 2, 1] (N + 1 + 1 + 1 + 1 + 1 + 1 + 1 + 1 + 1 + 1 + 1) #[.int .i64 3, .int .i64 14, .int .i64 4]) ?_ ?_
  · exact ShR.round HSH.out 4 (by decide) hz
  clear a0 a1 a2 b0 b1 b2 lb0 lb1 lb2 x8 x9 y8 y9 hz hlb hzs q0 q8 q81 qa qb HSH
  intro W3 HSH0; have HSH := Lib.hid HSH0; obtain ⟨c, z, bl, hz, hlb, LB, LN, hzs, L8, hS, Fa, Fb, Fc, Farg, Fhow, Fmany, Fskip⟩ := HSH0
  have a0 := Fa.cell 0; have a1 := Fa.cell 1; have a2 := Fa.cell 2
  simp [Fld.cells, Fld.atFn, Fld.mayFn, Fld.one] at a0 a1 a2
  have lb0 := LB.cell 0
  have lb1 := LB.cell 1
  have lb2 := LB.cell 2
  simp at lb0 lb1 lb2
  have q0 := LB.lt; have q8 := L8.lt; have qa := Fa.lt
  clear LB LN L8 hS bl Fa Fb Fc Farg Fhow Fmany Fskip
  rw [rounds_succ]; go_wp2
  refine wp_abs (ShR w N [4, 14, 3, 2, 1] W3.heap.size #[.int .i64 5, .int .i64 15]) ?_ ?_
  · exact ShR.lit HSH.out _ hz
  clear a0 a1 a2 lb0 lb1 lb2  hz hlb hzs q0 q8  qa HSH
  intro W4 HSH0; have HSH := Lib.hid HSH0; obtain ⟨c, z, bl, hz, hlb, LB, LN, hzs, L8, hS, Fa, Fb, Fc, Farg, Fhow, Fmany, Fskip⟩ := HSH0
  refine wp_loop_rounds 3 ?_
  have a0 := Fa.cell 0; have a1 := Fa.cell 1; have a2 := Fa.cell 2
  simp [Fld.cells, Fld.atFn, Fld.mayFn, Fld.one] at a0 a1 a2
  have lb0 := LB.cell 0
  have lb1 := LB.cell 1
  simp at lb0 lb1
  obtain ⟨_, x10⟩ := cell_getD L8 10 (by rw [hS.1]; decide); obtain ⟨_, x11⟩ := cell_getD L8 11 (by rw [hS.1]; decide)
  have y10 := L8.free 10; have y11 := L8.free 11
  have q0 := LB.lt; have q8 := L8.lt; have q81 : N + 1 + 1 + 1 + 1 + 1 + 1 + 1 + 1 < W4.heap.size + 1 := (by omega); have qa := Fa.lt
  clear LB LN L8 hS bl Fa Fb Fc Farg Fhow Fmany Fskip
  rw [rounds_succ]; go_wp2
  refine rounds_abs (ShR w N [5, 4, 14, 3, 2, 1] W3.heap.size #[.int .i64 5, .int .i64 15]) ?_ ?_
  · exact ShR.round HSH.out 5 (by decide) hz
  clear a0 a1 a2 lb0 lb1 x10 x11 y10 y11 hz hlb hzs q0 q8 q81 qa HSH
  intro W5 HSH0; have HSH := Lib.hid HSH0; obtain ⟨c, z, bl, hz, hlb, LB, LN, hzs, L8, hS, Fa, Fb, Fc, Farg, Fhow, Fmany, Fskip⟩ := HSH0
  have a0 := Fa.cell 0; have a1 := Fa.cell 1; have a2 := Fa.cell 2
  simp [Fld.cells, Fld.atFn, Fld.mayFn, Fld.one] at a0 a1 a2
  have lb0 := LB.cell 0
  have lb1 := LB.cell 1
  simp at lb0 lb1
  obtain ⟨_, x30⟩ := cell_getD L8 30 (by rw [hS.1]; decide); obtain ⟨_, x31⟩ := cell_getD L8 31 (by rw [hS.1]; decide)
  have y30 := L8.free 30; have y31 := L8.free 31
  have q0 := LB.lt; have q8 := L8.lt; have q81 : N + 1 + 1 + 1 + 1 + 1 + 1 + 1 + 1 < W5.heap.size + 1 := (by omega); have qa := Fa.lt
  clear LB LN L8 hS bl Fa Fb Fc Farg Fhow Fmany Fskip
  rw [rounds_succ]; go_wp2
  refine rounds_abs (ShR w N [15, 5, 4, 14, 3, 2, 1] W3.heap.size #[.int .i64 5, .int .i64 15]) ?_ ?_
  · exact ShR.round HSH.out 15 (by decide) hz
  clear a0 a1 a2 lb0 lb1 x30 x31 y30 y31 hz hlb hzs q0 q8 q81 qa HSH
  intro W6 HSH0; have HSH := Lib.hid HSH0; obtain ⟨c, z, bl, hz, hlb, LB, LN, hzs, L8, hS, Fa, Fb, Fc, Farg, Fhow, Fmany, Fskip⟩ := HSH0
  have a0 := Fa.cell 0; have a1 := Fa.cell 1; have a2 := Fa.cell 2
  simp [Fld.cells, Fld.atFn, Fld.mayFn, Fld.one] at a0 a1 a2
  have lb0 := LB.cell 0
  have lb1 := LB.cell 1
  simp at lb0 lb1
  have q0 := LB.lt; have q8 := L8.lt; have qa := Fa.lt
  clear LB LN L8 hS bl Fa Fb Fc Farg Fhow Fmany Fskip
  rw [rounds_succ]; go_wp2
  refine wp_abs (ShR w N [15, 5, 4, 14, 3, 2, 1] W6.heap.size #[.int .i64 6, .int .i64 7, .int .i64 8, .int .i64 9]) ?_ ?_
  · exact ShR.lit HSH.out _ hz
  clear a0 a1 a2 lb0 lb1  hz hlb hzs q0 q8  qa HSH
  intro W7 HSH0; have HSH := Lib.hid HSH0; obtain ⟨c, z, bl, hz, hlb, LB, LN, hzs, L8, hS, Fa, Fb, Fc, Farg, Fhow, Fmany, Fskip⟩ := HSH0
  refine wp_loop_rounds 5 ?_
  have a0 := Fa.cell 0; have a1 := Fa.cell 1; have a2 := Fa.cell 2
  have b0 := Fb.cell 0; have b1 := Fb.cell 1; have b2 := Fb.cell 2
  have c0 := Fc.cell 0; have c1 := Fc.cell 1; have c2 := Fc.cell 2
  simp [Fld.cells, Fld.atFn, Fld.mayFn, Fld.one] at a0 a1 a2 b0 b1 b2 c0 c1 c2
  have lb0 := LB.cell 0
  have lb1 := LB.cell 1
  have lb2 := LB.cell 2
  have lb3 := LB.cell 3
  simp at lb0 lb1 lb2 lb3
  obtain ⟨_, x12⟩ := cell_getD L8 12 (by rw [hS.1]; decide); obtain ⟨_, x13⟩ := cell_getD L8 13 (by rw [hS.1]; decide)
  have y12 := L8.free 12; have y13 := L8.free 13
  have q0 := LB.lt; have q8 := L8.lt; have q81 : N + 1 + 1 + 1 + 1 + 1 + 1 + 1 + 1 < W7.heap.size + 1 := (by omega); have qa := Fa.lt; have qb := Fb.lt; have qc := Fc.lt
  clear LB LN L8 hS bl Fa Fb Fc Farg Fhow Fmany Fskip
  rw [rounds_succ]; go_wp2
  refine rounds_abs (ShR w N [6, 15, 5, 4, 14, 3, 2, 1] W6.heap.size #[.int .i64 6, .int .i64 7, .int .i64 8, .int .i64 9]) ?_ ?_
  · exact ShR.round HSH.out 6 (by decide) hz
  clear a0 a1 a2 b0 b1 b2 c0 c1 c2 lb0 lb1 lb2 lb3 x12 x13 y12 y13 hz hlb hzs q0 q8 q81 qa qb qc HSH
  intro W8 HSH0; have HSH := Lib.hid HSH0; obtain ⟨c, z, bl, hz, hlb, LB, LN, hzs, L8, hS, Fa, Fb, Fc, Farg, Fhow, Fmany, Fskip⟩ := HSH0
  have a0 := Fa.cell 0; have a1 := Fa.cell 1; have a2 := Fa.cell 2
  have b0 := Fb.cell 0; have b1 := Fb.cell 1; have b2 := Fb.cell 2
  have c0 := Fc.cell 0; have c1 := Fc.cell 1; have c2 := Fc.cell 2
  simp [Fld.cells, Fld.atFn, Fld.mayFn, Fld.one] at a0 a1 a2 b0 b1 b2 c0 c1 c2
  have lb0 := LB.cell 0
  have lb1 := LB.cell 1
  have lb2 := LB.cell 2
  have lb3 := LB.cell 3
  simp at lb0 lb1 lb2 lb3
  obtain ⟨_, x14⟩ := cell_getD L8 14 (by rw [hS.1]; decide); obtain ⟨_, x15⟩ := cell_getD L8 15 (by rw [hS.1]; decide)
  have y14 := L8.free 14; have y15 := L8.free 15
  have q0 := LB.lt; have q8 := L8.lt; have q81 : N + 1 + 1 + 1 + 1 + 1 + 1 + 1 + 1 < W8.heap.size + 1 := (by omega); have qa := Fa.lt; have qb := Fb.lt; have qc := Fc.lt
  clear LB LN L8 hS bl Fa Fb Fc Farg Fhow Fmany Fskip
  rw [rounds_succ]; go_wp2
  refine rounds_abs (ShR w N [7, 6, 15, 5, 4, 14, 3, 2, 1] W6.heap.size #[.int .i64 6, .int .i64 7, .int .i64 8, .int .i64 9]) ?_ ?_
  · exact ShR.round HSH.out 7 (by decide) hz
  clear a0 a1 a2 b0 b1 b2 c0 c1 c2 lb0 lb1 lb2 lb3 x14 x15 y14 y15 hz hlb hzs q0 q8 q81 qa qb qc HSH
  intro W9 HSH0; have HSH := Lib.hid HSH0; obtain ⟨c, z, bl, hz, hlb, LB, LN, hzs, L8, hS, Fa, Fb, Fc, Farg, Fhow, Fmany, Fskip⟩ := HSH0
  have a0 := Fa.cell 0; have a1 := Fa.cell 1; have a2 := Fa.cell 2
  have b0 := Fb.cell 0; have b1 := Fb.cell 1; have b2 := Fb.cell 2
  have c0 := Fc.cell 0; have c1 := Fc.cell 1; have c2 := Fc.cell 2
  simp [Fld.cells, Fld.atFn, Fld.mayFn, Fld.one] at a0 a1 a2 b0 b1 b2 c0 c1 c2
  have lb0 := LB.cell 0
  have lb1 := LB.cell 1
  have lb2 := LB.cell 2
  have lb3 := LB.cell 3
  simp at lb0 lb1 lb2 lb3
  obtain ⟨_, x16⟩ := cell_getD L8 16 (by rw [hS.1]; decide); obtain ⟨_, x17⟩ := cell_getD L8 17 (by rw [hS.1]; decide)
  have y16 := L8.free 16; have y17 := L8.free 17
  have q0 := LB.lt; have q8 := L8.lt; have q81 : N + 1 + 1 + 1 + 1 + 1 + 1 + 1 + 1 < W9.heap.size + 1 := (by omega); have qa := Fa.lt; have qb := Fb.lt; have qc := Fc.lt
  clear LB LN L8 hS bl Fa Fb Fc Farg Fhow Fmany Fskip
  rw [rounds_succ]; go_wp2
  refine rounds_abs (ShR w N [8, 7, 6, 15, 5, 4, 14, 3, 2, 1] W6.heap.size #[.int .i64 6, .int .i64 7, .int .i64 8, .int .i64 9]) ?_ ?_
  · exact ShR.round HSH.out 8 (by decide) hz
  clear a0 a1 a2 b0 b1 b2 c0 c1 c2 lb0 lb1 lb2 lb3 x16 x17 y16 y17 hz hlb hzs q0 q8 q81 qa qb qc HSH
  intro W10 HSH0; have HSH := Lib.hid HSH0; obtain ⟨c, z, bl, hz, hlb, LB, LN, hzs, L8, hS, Fa, Fb, Fc, Farg, Fhow, Fmany, Fskip⟩ := HSH0
  have a0 := Fa.cell 0; have a1 := Fa.cell 1; have a2 := Fa.cell 2
  have b0 := Fb.cell 0; have b1 := Fb.cell 1; have b2 := Fb.cell 2
  have c0 := Fc.cell 0; have c1 := Fc.cell 1; have c2 := Fc.cell 2
  simp [Fld.cells, Fld.atFn, Fld.mayFn, Fld.one] at a0 a1 a2 b0 b1 b2 c0 c1 c2
  have lb0 := LB.cell 0
  have lb1 := LB.cell 1
  have lb2 := LB.cell 2
  have lb3 := LB.cell 3
  simp at lb0 lb1 lb2 lb3
  obtain ⟨_, x18⟩ := cell_getD L8 18 (by rw [hS.1]; decide); obtain ⟨_, x19⟩ := cell_getD L8 19 (by rw [hS.1]; decide)
  have y18 := L8.free 18; have y19 := L8.free 19
  have q0 := LB.lt; have q8 := L8.lt; have q81 : N + 1 + 1 + 1 + 1 + 1 + 1 + 1 + 1 < W10.heap.size + 1 := (by omega); have qa := Fa.lt; have qb := Fb.lt; have qc := Fc.lt
  clear LB LN L8 hS bl Fa Fb Fc Farg Fhow Fmany Fskip
  rw [rounds_succ]; go_wp2
  refine rounds_abs (ShR w N [9, 8, 7, 6, 15, 5, 4, 14, 3, 2, 1] W6.heap.size #[.int .i64 6, .int .i64 7, .int .i64 8, .int .i64 9]) ?_ ?_
  · exact ShR.round HSH.out 9 (by decide) hz
  clear a0 a1 a2 b0 b1 b2 c0 c1 c2 lb0 lb1 lb2 lb3 x18 x19 y18 y19 hz hlb hzs q0 q8 q81 qa qb qc HSH
  intro W11 HSH0; have HSH := Lib.hid HSH0; obtain ⟨c, z, bl, hz, hlb, LB, LN, hzs, L8, hS, Fa, Fb, Fc, Farg, Fhow, Fmany, Fskip⟩ := HSH0
  have b0 := Fb.cell 0; have b1 := Fb.cell 1; have b2 := Fb.cell 2
  have c0 := Fc.cell 0; have c1 := Fc.cell 1; have c2 := Fc.cell 2
  have how0 := Fhow.cell 0; have how1 := Fhow.cell 1; have how2 := Fhow.cell 2
  simp [Fld.cells, Fld.atFn, Fld.mayFn, Fld.one] at b0 b1 b2 c0 c1 c2 how0 how1 how2
  have lb0 := LB.cell 0
  have lb1 := LB.cell 1
  have lb2 := LB.cell 2
  have lb3 := LB.cell 3
  simp at lb0 lb1 lb2 lb3
  obtain ⟨_, x20⟩ := cell_getD L8 20 (by rw [hS.1]; decide); obtain ⟨_, x21⟩ := cell_getD L8 21 (by rw [hS.1]; decide)
  have y20 := L8.free 20; have y21 := L8.free 21
  have q0 := LB.lt; have q8 := L8.lt; have q81 : N + 1 + 1 + 1 + 1 + 1 + 1 + 1 + 1 < W11.heap.size + 1 := (by omega); have qb := Fb.lt; have qc := Fc.lt; have qhow := Fhow.lt
  clear LB LN L8 hS bl Fa Fb Fc Farg Fhow Fmany Fskip
  rw [rounds_succ]; go_upto_region 27 with (fail)
  refine wp_abs (ShR w N [10, 9, 8, 7, 6, 15, 5, 4, 14, 3, 2, 1] W6.heap.size #[.int .i64 6, .int .i64 7, .int .i64 8, .int .i64 9]) ?_ ?_
  · exact ShR.round HSH.out 10 (by decide) hz
  clear b0 b1 b2 c0 c1 c2 how0 how1 how2 lb0 lb1 lb2 lb3 x20 x21 y20 y21 hz hlb hzs q0 q8 q81 qb qc qhow HSH
  intro W12 HSH0; have HSH := Lib.hid HSH0; obtain ⟨c, z, bl, hz, hlb, LB, LN, hzs, L8, hS, Fa, Fb, Fc, Farg, Fhow, Fmany, Fskip⟩ := HSH0
  have b0 := Fb.cell 0; have b1 := Fb.cell 1; have b2 := Fb.cell 2
  have c0 := Fc.cell 0; have c1 := Fc.cell 1; have c2 := Fc.cell 2
  have how0 := Fhow.cell 0; have how1 := Fhow.cell 1; have how2 := Fhow.cell 2
  have skip0 := Fskip.cell 0; have skip1 := Fskip.cell 1; have skip2 := Fskip.cell 2
  simp [Fld.cells, Fld.atFn, Fld.mayFn, Fld.one] at b0 b1 b2 c0 c1 c2 how0 how1 how2 skip0 skip1 skip2
  have lb0 := LB.cell 0
  have lb1 := LB.cell 1
  have lb2 := LB.cell 2
  have lb3 := LB.cell 3
  simp at lb0 lb1 lb2 lb3
  obtain ⟨_, x22⟩ := cell_getD L8 22 (by rw [hS.1]; decide); obtain ⟨_, x23⟩ := cell_getD L8 23 (by rw [hS.1]; decide)
  have y22 := L8.free 22; have y23 := L8.free 23
  have q0 := LB.lt; have q8 := L8.lt; have q81 : N + 1 + 1 + 1 + 1 + 1 + 1 + 1 + 1 < W12.heap.size + 1 := (by omega); have qb := Fb.lt; have qc := Fc.lt; have qhow := Fhow.lt; have qskip := Fskip.lt
  clear LB LN L8 hS bl Fa Fb Fc Farg Fhow Fmany Fskip
  go_upto_region 28 with (fail)
  refine wp_abs (ShR w N [11, 10, 9, 8, 7, 6, 15, 5, 4, 14, 3, 2, 1] W6.heap.size #[.int .i64 6, .int .i64 7, .int .i64 8, .int .i64 9]) ?_ ?_
  · exact ShR.round HSH.out 11 (by decide) hz
  clear b0 b1 b2 c0 c1 c2 how0 how1 how2 skip0 skip1 skip2 lb0 lb1 lb2 lb3 x22 x23 y22 y23 hz hlb hzs q0 q8 q81 qb qc qhow qskip HSH
  intro W13 HSH0; have HSH := Lib.hid HSH0; obtain ⟨c, z, bl, hz, hlb, LB, LN, hzs, L8, hS, Fa, Fb, Fc, Farg, Fhow, Fmany, Fskip⟩ := HSH0
  have a0 := Fa.cell 0; have a1 := Fa.cell 1; have a2 := Fa.cell 2
  simp [Fld.cells, Fld.atFn, Fld.mayFn, Fld.one] at a0 a1 a2
  have lb0 := LB.cell 0
  have lb1 := LB.cell 1
  have lb2 := LB.cell 2
  have lb3 := LB.cell 3
  simp at lb0 lb1 lb2 lb3
  have q0 := LB.lt; have q8 := L8.lt; have qa := Fa.lt
  clear LB LN L8 hS bl Fa Fb Fc Farg Fhow Fmany Fskip
  go_wp2
  refine wp_abs (ShR w N [11, 10, 9, 8, 7, 6, 15, 5, 4, 14, 3, 2, 1] W13.heap.size #[.int .i64 12, .int .i64 13]) ?_ ?_
  · exact ShR.lit HSH.out _ hz
  clear a0 a1 a2 lb0 lb1 lb2 lb3  hz hlb hzs q0 q8  qa HSH
  intro W14 HSH0; have HSH := Lib.hid HSH0; obtain ⟨c, z, bl, hz, hlb, LB, LN, hzs, L8, hS, Fa, Fb, Fc, Farg, Fhow, Fmany, Fskip⟩ := HSH0
  refine wp_loop_rounds 3 ?_
  have a0 := Fa.cell 0; have a1 := Fa.cell 1; have a2 := Fa.cell 2
  have b0 := Fb.cell 0; have b1 := Fb.cell 1; have b2 := Fb.cell 2
  have c0 := Fc.cell 0; have c1 := Fc.cell 1; have c2 := Fc.cell 2
  have many0 := Fmany.cell 0; have many1 := Fmany.cell 1; have many2 := Fmany.cell 2
  simp [Fld.cells, Fld.atFn, Fld.mayFn, Fld.one] at a0 a1 a2 b0 b1 b2 c0 c1 c2 many0 many1 many2
  have lb0 := LB.cell 0
  have lb1 := LB.cell 1
  simp at lb0 lb1
  obtain ⟨_, x24⟩ := cell_getD L8 24 (by rw [hS.1]; decide); obtain ⟨_, x25⟩ := cell_getD L8 25 (by rw [hS.1]; decide)
  have y24 := L8.free 24; have y25 := L8.free 25
  have q0 := LB.lt; have q8 := L8.lt; have q81 : N + 1 + 1 + 1 + 1 + 1 + 1 + 1 + 1 < W14.heap.size + 1 := (by omega); have qa := Fa.lt; have qb := Fb.lt; have qc := Fc.lt; have qmany := Fmany.lt
  clear LB LN L8 hS bl Fa Fb Fc Farg Fhow Fmany Fskip
  rw [rounds_succ]; go_wp2
  refine rounds_abs (ShR w N [12, 11, 10, 9, 8, 7, 6, 15, 5, 4, 14, 3, 2, 1] W13.heap.size #[.int .i64 12, .int .i64 13]) ?_ ?_
  · exact ShR.round HSH.out 12 (by decide) hz
  clear a0 a1 a2 b0 b1 b2 c0 c1 c2 many0 many1 many2 lb0 lb1 x24 x25 y24 y25 hz hlb hzs q0 q8 q81 qa qb qc qmany HSH
  intro W15 HSH0; have HSH := Lib.hid HSH0; obtain ⟨c, z, bl, hz, hlb, LB, LN, hzs, L8, hS, Fa, Fb, Fc, Farg, Fhow, Fmany, Fskip⟩ := HSH0
  have a0 := Fa.cell 0; have a1 := Fa.cell 1; have a2 := Fa.cell 2
  have b0 := Fb.cell 0; have b1 := Fb.cell 1; have b2 := Fb.cell 2
  have c0 := Fc.cell 0; have c1 := Fc.cell 1; have c2 := Fc.cell 2
  have many0 := Fmany.cell 0; have many1 := Fmany.cell 1; have many2 := Fmany.cell 2
  simp [Fld.cells, Fld.atFn, Fld.mayFn, Fld.one] at a0 a1 a2 b0 b1 b2 c0 c1 c2 many0 many1 many2
  have lb0 := LB.cell 0
  have lb1 := LB.cell 1
  simp at lb0 lb1
  obtain ⟨_, x26⟩ := cell_getD L8 26 (by rw [hS.1]; decide); obtain ⟨_, x27⟩ := cell_getD L8 27 (by rw [hS.1]; decide)
  have y26 := L8.free 26; have y27 := L8.free 27
  have q0 := LB.lt; have q8 := L8.lt; have q81 : N + 1 + 1 + 1 + 1 + 1 + 1 + 1 + 1 < W15.heap.size + 1 := (by omega); have qa := Fa.lt; have qb := Fb.lt; have qc := Fc.lt; have qmany := Fmany.lt
  clear LB LN L8 hS bl Fa Fb Fc Farg Fhow Fmany Fskip
  rw [rounds_succ]; go_wp2
  refine rounds_abs (ShR w N [13, 12, 11, 10, 9, 8, 7, 6, 15, 5, 4, 14, 3, 2, 1] W13.heap.size #[.int .i64 12, .int .i64 13]) ?_ ?_
  · exact ShR.round HSH.out 13 (by decide) hz
  clear a0 a1 a2 b0 b1 b2 c0 c1 c2 many0 many1 many2 lb0 lb1 x26 x27 y26 y27 hz hlb hzs q0 q8 q81 qa qb qc qmany HSH
  intro W16 HSH0; have HSH := Lib.hid HSH0; obtain ⟨c, z, bl, hz, hlb, LB, LN, hzs, L8, hS, Fa, Fb, Fc, Farg, Fhow, Fmany, Fskip⟩ := HSH0
  have a0 := Fa.cell 0; have a1 := Fa.cell 1; have a2 := Fa.cell 2
  simp [Fld.cells, Fld.atFn, Fld.mayFn, Fld.one] at a0 a1 a2
  have lb0 := LB.cell 0
  have lb1 := LB.cell 1
  simp at lb0 lb1
  have q0 := LB.lt; have q8 := L8.lt; have qa := Fa.lt
  clear LB LN L8 hS bl Fa Fb Fc Farg Fhow Fmany Fskip
  rw [rounds_succ]; go_upto_region 33 with (fail)
  refine wp_absA (fun A => A.tmps.getD 8 undef = .pointer (some ⟨N + 1 + 1 + 1 + 1 + 1 + 1 + 1 + 1, 0, none⟩) ∧ A.tmps.getD 0 undef = .pointer (some ⟨N, 0, none⟩) ∧ A.tmps.size = 101 ∧ A.defers = []) ⟨rfl, rfl, rfl, rfl⟩ ?_
  rintro act ⟨e8, e0, esz, edf⟩
  clear a0 a1 a2
  have hN := HN.out
  refine wp_region_lit ?_
  refine shapes_copy hN HSH.out e8 e0 esz rfl rfl rfl rfl rfl rfl (fun c hS hB hrow hsz => ?_)
  rename_i hK
  refine hK _ _ (wp_ret ?_)
  refine bodyPost_ret (v := .agg c) (results_cell_row rfl _ _ N 184 c (0, 0) _ (by rw [getD_put_other _ _ _ _ (by decide)]; exact e0) hrow Tryz.underlying184 rfl (by rw [hsz]; exact infShapes)) (by rw [put_defers]; exact edf) ⟨c, rfl, hS, hB⟩
end Go.Proofs.YtnieminnnkbneaaGreat
