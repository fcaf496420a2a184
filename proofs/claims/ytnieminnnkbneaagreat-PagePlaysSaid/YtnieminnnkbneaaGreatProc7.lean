/- Walk of proc.Decode. -/
import Derived.Test.YtnieminnnkbneaaGreatProc6
import Derived.Deep.RegionLaw
namespace Go.Proofs.YtnieminnnkbneaaGreat
open Go.RowKit

/-- append of a row of one's own, as one step of a region that draws. -/
theorem step_append_mine {P : Program} (w : World) {ops : Array Oper} {o : Oper} {a : Act} {K : Act → World → Prop} {Q : Exit → Act → World → Prop} {E : Prop} (hgd : o.guard = none) (s x : Operand) (t tx : TypeId)
    (ho : o.op = .call { callee := .builtin .append, args := #[s, x], argTypes := #[t, tx] })
    (e : TypeId) (z : Value) (size bytes : Nat) (ht : P.underlying t = some (.slice e))
    (hinfo : (P.info? e).map (fun i => (i.zero, i.size, i.bytes)) = some (some z, size, bytes)) (hzs : z.cells.size = size) (hsz : 0 < size)
    (v : Value) (n : Nat) (xs : List Value) (hs : a.eval s = v) (hown : w.ownsRow 0 e size v n xs)
    (xv : Value) (m : Nat) (news : List Value) (hx : a.eval x = xv) (hsrc : Src P size tx xv m news w)
    (h63 : n + m ≤ maxLen) (hbytes : (n + m) * bytes ≤ 140737488355328)
    (h : ∀ A' c' w', w'.ownsRow 0 e size (.slice A' (n + m) c') (n + m) (xs ++ news) → w.grownBy w' v.ownBlock → (∀ k, (Value.slice A' (n + m) c').ownBlock = some k → v.ownBlock = some k ∨ k = w.heap.size) →
      (Value.slice A' (n + m) c' = .slice none 0 0 ↔ v = .slice none 0 0 ∧ m = 0) → K (a.put o.dst (.slice A' (n + m) c')) w') :
    if Region.wanted o (yielded ops a.tmps) = true then Oper.wp P o a w K Q else E := by
  have hw : Region.wanted o (yielded ops a.tmps) = true := by simp [Region.wanted, hgd]
  rw [if_pos hw]
  exact wp_append_mine w s x t tx ho e z size bytes ht hinfo hzs hsz v n xs hs hown xv m news hx hsrc h63 hbytes h
theorem Row.of_loc {w : World} {b : Nat} {c : Array Value} {t : TypeId} (h : Loc w b c t) : Row w (some ⟨b, 0, none⟩) c.toList :=
  .inr ⟨b, 0, rfl, fun j hj => by rw [h.cell]; simp⟩

theorem owns_mono' {w w' : World} {base : Nat} {e : TypeId} {size m : Nat} {v : Value} {cs : List Value} (h : w.ownsRow base e size v m cs) (hb : Below w.heap.size w w') : w'.ownsRow base e size v m cs :=
  owns_keep h (Keep.of_below hb (fun _ => False)) (Nat.le_refl _) (fun _ _ f => f)

/-- What follows the code. -/
def decTail (s : Bs) (a : Int) (q : (List Ins × Rdr) × Int) : Prc × Int :=
  if q.2 ≠ 0 then (.zero, q.2) else
  if q.1.2.end_ ≠ 0 then (.zero, q.1.2.end_) else
  if (procCheck ⟨ofBs s, a, q.1.1⟩).2 ≠ 0 then (.zero, (procCheck ⟨ofBs s, a, q.1.1⟩).2) else (⟨ofBs s, a, q.1.1⟩, 0)

theorem procDecode_eq {b s : Bs} {r1 r2 r3 : Rdr} {a n : Int} (h1 : (Rdr.new b).text 32 = (s, r1)) (h2 : r1.number = (a, r2)) (h3 : r2.number = (n, r3)) :
    procDecode b = if r3.err ≠ 0 then (.zero, r3.err) else if 64 < n then (.zero, 4) else decTail s a (readCode b.length n.toNat r3 []) := by
  unfold procDecode
  rw [h1]; simp only; rw [h2]; simp only; rw [h3]; simp only
  rcases readCode b.length n.toNat r3 [] with ⟨⟨l, r⟩, e⟩
  rfl

theorem readCode_step (all k : Nat) (r : Rdr) (l : List Ins) : readCode all (k + 1) r l = if (readIns all r).2 ≠ 0 then ((l, (readIns all r).1.2), (readIns all r).2) else readCode all k (readIns all r).1.2 (l ++ [(readIns all r).1.1]) := by
  rw [readCode]

theorem fits_inR {x : Ins} (h : x.fits) : x.inR := by
  obtain ⟨ho, hf, hk, hv⟩ := h
  have ha := hf .a; have hb := hf .b; have hc := hf .c; have hn := hf .arg
  simp only [Fld.get, big] at ha hb hc hn
  obtain ⟨hv0, hv1⟩ := hv
  unfold Ins.inR i64R
  omega

theorem readCode_ok {b s : Bs} {r1 r2 r3 r4 : Rdr} {a n : Int} {l : List Ins} (h1 : (Rdr.new b).text 32 = (s, r1)) (h2 : r1.number = (a, r2)) (h3 : r2.number = (n, r3)) (he : r3.err = 0) (h4 : readCode b.length n.toNat r3 [] = ((l, r4), 0)) :
    i64R a ∧ ∀ x ∈ l, x.inR := by
  have hs2 : r2.err = 0 := by
    rcases Classical.em (r2.err = 0) with h | h
    · exact h
    · unfold Rdr.number Rdr.row at h3
      rw [if_pos h] at h3
      have := (Prod.mk.inj h3).2
      rw [← this] at he; exact he
  have hs1 : r1.err = 0 := by
    rcases Classical.em (r1.err = 0) with h | h
    · exact h
    · unfold Rdr.number Rdr.row at h2
      rw [if_pos h] at h2
      have := (Prod.mk.inj h2).2
      rw [← this] at hs2; exact hs2
  obtain ⟨_, _, _, z1, _, hr1, _⟩ := text_inv (Rem.new b) h1 hs1
  obtain ⟨_, ha0, ha1, z2, _, hr2, _⟩ := number_inv hr1 h2 hs2
  obtain ⟨_, _, _, z3, _, hr3, _⟩ := number_inv hr2 h3 he
  obtain ⟨m, z4, hl, _, hfit, _⟩ := readCode_inv n.toNat r3 r4 [] l z3 hr3 he h4
  rw [List.nil_append] at hl
  subst hl
  exact ⟨by unfold i64R; omega, fun x hx => fits_inR (hfit x hx)⟩

/-- What Decode defers. -/
def dfr (p q : Nat) : Deferred := { target := Target.fn (Fn.func 118) #[.pointer (some ⟨p, 0, none⟩), .pointer (some ⟨q, 0, none⟩)], args := #[] }

theorem door_panic (p q : Nat) (c0 c1 c2 e0 : Value) (E : Int) (a : Act) (w : World) (R : Ending → World → Prop) (hd : a.defers = [dfr p q]) (h2 : a.tmps.getD 2 undef = .pointer (some ⟨p, 0, none⟩)) (h3 : a.tmps.getD 3 undef = .pointer (some ⟨q, 0, none⟩))
    (hp : Loc w p #[c0, c1, c2] 54) (hq : Loc w q #[e0] 25) (hpq : p ≠ q)
    (hR : R (.returned (.tuple #[.agg #[.string ⟨#[]⟩, .int .i64 0, .slice none 0 0], .int .i64 E])) ((((w.setCell ⟨p, 0, none⟩ (.string ⟨#[]⟩)).setCell ⟨p, 1, none⟩ (.int .i64 0)).setCell ⟨p, 2, none⟩ (.slice none 0 0)).setCell ⟨q, 0, none⟩ (.int .i64 E))) :
    bodyPostD Tryz.prog Tryz.f98 R (.panic (refusal E)) a w := by
  have Lp := ((((hp.set 0 (.string ⟨#[]⟩)).set 1 (.int .i64 0)).set 2 (.slice none 0 0)).other (a := ⟨q, 0, none⟩) hpq (.int .i64 E))
  have Lq := ((((hq.other (a := ⟨p, 0, none⟩) (Ne.symm hpq) (.string ⟨#[]⟩)).other (a := ⟨p, 1, none⟩) (Ne.symm hpq) (.int .i64 0)).other (a := ⟨p, 2, none⟩) (Ne.symm hpq) (.slice none 0 0)).set 0 (.int .i64 E))
  simp only [List.setIfInBounds_toArray, List.set_cons_zero, List.set_cons_succ] at Lp Lq
  have k0 := Lp.cell 0; have k1 := Lp.cell 1; have k2 := Lp.cell 2; have k3 := Lq.cell 0
  simp only [List.getElem?_toArray, List.getElem?_cons_zero, List.getElem?_cons_succ] at k0 k1 k2 k3
  simp only [Array.getD_eq_getD_getElem?] at h2 h3
  show Leaves Tryz.prog Tryz.f98 a.tmps R a.defers (.panicking (refusal E)) w
  rw [hd]
  refine leaves_cons (f := 118) (args := #[.pointer (some ⟨p, 0, none⟩), .pointer (some ⟨q, 0, none⟩)]) (by simp) (by simp [go_sem]) ?_
  refine (catch_panicking p q c0 c1 c2 e0 E [] w hp hq hpq).mono ?_
  rintro e u' w'' ⟨rfl, rfl, rfl⟩
  generalize (((w.setCell ⟨p, 0, none⟩ (.string ⟨#[]⟩)).setCell ⟨p, 1, none⟩ (.int .i64 0)).setCell ⟨p, 2, none⟩ (.slice none 0 0)).setCell ⟨q, 0, none⟩ (.int .i64 E) = W at *
  refine ⟨_, ?_, hR⟩
  simp [results, Tryz.results98, go_sem, h2, h3, k0, k1, k2, k3]

theorem door_ret (p q : Nat) (c0 c1 c2 e0 : Value) (a : Act) (w : World) (R : Ending → World → Prop) (hd : a.defers = [dfr p q]) (h2 : a.tmps.getD 2 undef = .pointer (some ⟨p, 0, none⟩)) (h3 : a.tmps.getD 3 undef = .pointer (some ⟨q, 0, none⟩))
    (hp : Loc w p #[c0, c1, c2] 54) (hq : Loc w q #[e0] 25)
    (hR : R (.returned (.tuple #[.agg #[c0, c1, c2], e0])) w) :
    bodyPostD Tryz.prog Tryz.f98 R .ret a w := by
  have k0 := hp.cell 0; have k1 := hp.cell 1; have k2 := hp.cell 2; have k3 := hq.cell 0
  simp only [List.getElem?_toArray, List.getElem?_cons_zero, List.getElem?_cons_succ] at k0 k1 k2 k3
  simp only [Array.getD_eq_getD_getElem?] at h2 h3
  show Leaves Tryz.prog Tryz.f98 a.tmps R a.defers .returning w
  rw [hd]
  refine leaves_cons (f := 118) (args := #[.pointer (some ⟨p, 0, none⟩), .pointer (some ⟨q, 0, none⟩)]) (by simp) (by simp [go_sem]) ?_
  refine (catch_idle p q w).mono ?_
  rintro e u' w'' ⟨rfl, rfl, rfl⟩
  refine ⟨_, ?_, hR⟩
  simp [results, Tryz.results98, go_sem, h2, h3, k0, k1, k2, k3]

/-- What Decode answers. -/
def DPost (xs : Bs) (w : World) (e : Ending) (w' : World) : Prop :=
  ∃ A' c', e = .returned (.tuple #[.agg (procCells (procDecode xs).1.name (procDecode xs).1.args A' (procDecode xs).1.code.length c'), .int .i64 (procDecode xs).2]) ∧
      w'.ownsRow w.heap.size 109 8 (.slice A' (procDecode xs).1.code.length c') (procDecode xs).1.code.length (codeCells (procDecode xs).1.code) ∧ Below w.heap.size w w'

/-- What stands in memory while Decode runs. -/
structure DSt (w W : World) (r lb G n : Nat) (q : Rdr) (p0 p1 p2 : Value) : Prop where
  lp : Loc W w.heap.size #[p0, p1, p2] 54
  le : Loc W (w.heap.size + 1) #[.int .i64 0] 25
  g : Loc W G #[.pointer (some ⟨r, 0, none⟩), .int .i64 n] 205
  rd : Rd W r q
  t : Tab W lb
  b : Below w.heap.size w W
namespace DSt
variable {w W W' : World} {r lb G n : Nat} {q q' : Rdr} {p0 p1 p2 : Value}
theorem step (h : DSt w W r lb G n q p0 p1 p2) (hS : RdStep W W' r q') (hr : w.heap.size ≤ r) : DSt w W' r lb G n q' p0 p1 p2 :=
  ⟨h.lp.rd hS (h.rd.ne h.lp (by decide)), h.le.rd hS (h.rd.ne h.le (by decide)), h.g.rd hS (h.rd.ne h.g (by decide)), hS.1, h.t.rd h.rd hS, below_rd h.b hS h.b.size hr⟩
theorem set0 (h : DSt w W r lb G n q p0 p1 p2) (v : Value) : DSt w (W.setCell ⟨w.heap.size, 0, none⟩ v) r lb G n q v p1 p2 := by
  have hl := h.lp.set 0 v
  simp only [List.setIfInBounds_toArray, List.set_cons_zero] at hl
  exact ⟨hl, h.le.other (a := ⟨w.heap.size, 0, none⟩) (by show w.heap.size + 1 ≠ w.heap.size; omega) v, h.g.other (a := ⟨w.heap.size, 0, none⟩) (h.g.ne h.lp (by decide)) v,
    h.rd.other h.lp (by decide) (by decide) 0 v, h.t.set h.lp (by decide) (by decide) 0 v, h.b.setCell (p := ⟨w.heap.size, 0, none⟩) (Nat.le_refl _) v⟩
theorem set1 (h : DSt w W r lb G n q p0 p1 p2) (v : Value) : DSt w (W.setCell ⟨w.heap.size, 1, none⟩ v) r lb G n q p0 v p2 := by
  have hl := h.lp.set 1 v
  simp only [List.setIfInBounds_toArray, List.set_cons_zero, List.set_cons_succ] at hl
  exact ⟨hl, h.le.other (a := ⟨w.heap.size, 1, none⟩) (by show w.heap.size + 1 ≠ w.heap.size; omega) v, h.g.other (a := ⟨w.heap.size, 1, none⟩) (h.g.ne h.lp (by decide)) v,
    h.rd.other h.lp (by decide) (by decide) 1 v, h.t.set h.lp (by decide) (by decide) 1 v, h.b.setCell (p := ⟨w.heap.size, 1, none⟩) (Nat.le_refl _) v⟩
theorem set2 (h : DSt w W r lb G n q p0 p1 p2) (v : Value) : DSt w (W.setCell ⟨w.heap.size, 2, none⟩ v) r lb G n q p0 p1 v := by
  have hl := h.lp.set 2 v
  simp only [List.setIfInBounds_toArray, List.set_cons_zero, List.set_cons_succ] at hl
  exact ⟨hl, h.le.other (a := ⟨w.heap.size, 2, none⟩) (by show w.heap.size + 1 ≠ w.heap.size; omega) v, h.g.other (a := ⟨w.heap.size, 2, none⟩) (h.g.ne h.lp (by decide)) v,
    h.rd.other h.lp (by decide) (by decide) 2 v, h.t.set h.lp (by decide) (by decide) 2 v, h.b.setCell (p := ⟨w.heap.size, 2, none⟩) (Nat.le_refl _) v⟩
theorem below (h : DSt w W r lb G n q p0 p1 p2) (hb : Below W.heap.size W W') : DSt w W' r lb G n q p0 p1 p2 :=
  ⟨h.lp.below hb h.lp.lt, h.le.below hb h.le.lt, h.g.below hb h.g.lt, h.rd.below hb, h.t.below hb (Nat.le_refl _), below_then h.b hb h.b.size⟩
theorem alloc (h : DSt w W r lb G n q p0 p1 p2) (o : Obj) : DSt w (W.alloc o) r lb G n q p0 p1 p2 := h.below ((Below.refl _ _).alloc (Nat.le_refl _) o)
theorem drew (h : DSt w W r lb G n q p0 p1 p2) : DSt w W.drew r lb G n q p0 p1 p2 := h.below ((Below.refl _ _).drew)
theorem rdb (h : DSt w W r lb G n q p0 p1 p2) {P : Prop} (k : ∀ c t f, W.heap[r]? = some (.cells c t f) → t = 118 → P) : P := by
  obtain ⟨d, h0, _⟩ := h.rd
  exact k _ _ _ h0 rfl
theorem grown {v : Value} {m base : Nat} {cs : List Value} (h : DSt w W r lb G n q p0 p1 p2) (hown : W.ownsRow base 109 8 v m cs) (hg : W.grownBy W' v.ownBlock) (hb : ∀ k, v.ownBlock = some k → w.heap.size ≤ k) : DSt w W' r lb G n q p0 p1 p2 := by
  refine ⟨h.lp.grown hg (owns_ne hown h.lp (by decide)), h.le.grown hg (owns_ne hown h.le (by decide)), h.g.grown hg (owns_ne hown h.g (by decide)), ?_, h.t.keep (fun g cs t ht hl => hl.grown hg (owns_ne hown hl (by rcases ht with rfl | rfl <;> decide))), h.b.grown hg h.b.size hb⟩
  obtain ⟨d, h0, h1, h2⟩ := h.rd
  exact ⟨d, grown_cell hg h0 (owns_ne hown h0 (by decide)), grown_cell hg h1 (owns_ne hown h1 (by decide)), h2⟩
/-- The end by a refusal. -/
theorem panic {xs : Bs} {E : Int} (h : DSt w W r lb G n q p0 p1 p2) (a : Act) (hd : a.defers = [dfr w.heap.size (w.heap.size + 1)]) (h2 : a.tmps.getD 2 undef = .pointer (some ⟨w.heap.size, 0, none⟩)) (h3 : a.tmps.getD 3 undef = .pointer (some ⟨w.heap.size + 1, 0, none⟩)) (hx : procDecode xs = (.zero, E)) :
    bodyPostD Tryz.prog Tryz.f98 (DPost xs w) (.panic (refusal E)) a W := by
  refine door_panic w.heap.size (w.heap.size + 1) p0 p1 p2 (.int .i64 0) E a W _ hd h2 h3 h.lp h.le (by omega) ?_
  refine ⟨none, 0, ?_, ?_, ?_⟩
  · rw [hx]; rfl
  · rw [hx]; exact World.ownsRow_nil _ _ _ _
  · exact (((h.b.setCell (p := ⟨w.heap.size, 0, none⟩) (Nat.le_refl _) _).setCell (p := ⟨w.heap.size, 1, none⟩) (Nat.le_refl _) _).setCell (p := ⟨w.heap.size, 2, none⟩) (Nat.le_refl _) _).setCell (p := ⟨w.heap.size + 1, 0, none⟩) (by show w.heap.size ≤ w.heap.size + 1; omega) _
/-- The end by a return of a procedure. -/
theorem good {xs : Bs} {nm : ByteArray} {ar : Int} {A' : Option Addr} {k c' : Nat} {l : List Ins} (h : DSt w W r lb G n q (.string nm) (.int .i64 ar) (.slice A' k c')) (hl : l.length = k) (a : Act) (hd : a.defers = [dfr w.heap.size (w.heap.size + 1)]) (h2 : a.tmps.getD 2 undef = .pointer (some ⟨w.heap.size, 0, none⟩)) (h3 : a.tmps.getD 3 undef = .pointer (some ⟨w.heap.size + 1, 0, none⟩))
    (hown : W.ownsRow w.heap.size 109 8 (.slice A' k c') k (codeCells l)) (hx : procDecode xs = (⟨nm, ar, l⟩, 0)) :
    bodyPostD Tryz.prog Tryz.f98 (DPost xs w) .ret a ((((W.setCell ⟨w.heap.size, 0, none⟩ (.string nm)).setCell ⟨w.heap.size, 1, none⟩ (.int .i64 ar)).setCell ⟨w.heap.size, 2, none⟩ (.slice A' k c')).setCell ⟨w.heap.size + 1, 0, none⟩ (.int .i64 0)) := by
  subst hl
  have k0 := h.set0 (.string nm)
  have o0 := owns_setCell (a := ⟨w.heap.size, 0, none⟩) hown (owns_ne hown h.lp (by decide)) (.string nm)
  have k1 := k0.set1 (.int .i64 ar)
  have o1 := owns_setCell (a := ⟨w.heap.size, 1, none⟩) o0 (owns_ne o0 k0.lp (by decide)) (.int .i64 ar)
  have k2 := k1.set2 (.slice A' l.length c')
  have o2 := owns_setCell (a := ⟨w.heap.size, 2, none⟩) o1 (owns_ne o1 k1.lp (by decide)) (.slice A' l.length c')
  have o3 := owns_setCell (a := ⟨w.heap.size + 1, 0, none⟩) o2 (owns_ne o2 k2.le (by decide)) (.int .i64 0)
  have he := k2.le.set 0 (.int .i64 0)
  simp only [List.setIfInBounds_toArray, List.set_cons_zero] at he
  refine door_ret w.heap.size (w.heap.size + 1) _ _ _ _ a _ _ hd h2 h3 (k2.lp.other (a := ⟨w.heap.size + 1, 0, none⟩) (by show w.heap.size ≠ w.heap.size + 1; omega) _) he ?_
  refine ⟨A', c', ?_, ?_, ?_⟩
  · rw [hx]; rfl
  · rw [hx]; exact o3
  · exact k2.b.setCell (p := ⟨w.heap.size + 1, 0, none⟩) (by show w.heap.size ≤ w.heap.size + 1; omega) _
/-- The end by a return of nothing but an error. -/
theorem nothing {xs : Bs} {E : Int} (h : DSt w W r lb G n q p0 p1 p2) (a : Act) (hd : a.defers = [dfr w.heap.size (w.heap.size + 1)]) (h2 : a.tmps.getD 2 undef = .pointer (some ⟨w.heap.size, 0, none⟩)) (h3 : a.tmps.getD 3 undef = .pointer (some ⟨w.heap.size + 1, 0, none⟩)) (hx : procDecode xs = (.zero, E)) :
    bodyPostD Tryz.prog Tryz.f98 (DPost xs w) .ret a ((((W.setCell ⟨w.heap.size, 0, none⟩ (.string ⟨#[]⟩)).setCell ⟨w.heap.size, 1, none⟩ (.int .i64 0)).setCell ⟨w.heap.size, 2, none⟩ (.slice none 0 0)).setCell ⟨w.heap.size + 1, 0, none⟩ (.int .i64 E)) := by
  have k := ((h.set0 (.string ⟨#[]⟩)).set1 (.int .i64 0)).set2 (.slice none 0 0)
  have he := k.le.set 0 (.int .i64 E)
  simp only [List.setIfInBounds_toArray, List.set_cons_zero] at he
  refine door_ret w.heap.size (w.heap.size + 1) _ _ _ _ a _ _ hd h2 h3 (k.lp.other (a := ⟨w.heap.size + 1, 0, none⟩) (by show w.heap.size ≠ w.heap.size + 1; omega) _) he ?_
  refine ⟨none, 0, ?_, ?_, ?_⟩
  · rw [hx]; rfl
  · rw [hx]; exact World.ownsRow_nil _ _ _ _
  · exact k.b.setCell (p := ⟨w.heap.size + 1, 0, none⟩) (by show w.heap.size ≤ w.heap.size + 1; omega) _
end DSt

/-- A region that gives up, and nothing else. -/
def RPan (w : World) (r lb G n : Nat) (E : Int) : Exit → Act → World → Prop
  | .panic ch, a, W => ch = refusal E ∧ a.defers = [dfr w.heap.size (w.heap.size + 1)] ∧ a.tmps.getD 2 undef = .pointer (some ⟨w.heap.size, 0, none⟩) ∧ a.tmps.getD 3 undef = .pointer (some ⟨w.heap.size + 1, 0, none⟩) ∧ ∃ q p0 p1 p2, DSt w W r lb G n q p0 p1 p2
  | _, _, _ => False
theorem RPan.put {w : World} {r lb G n : Nat} {E : Int} (d : Nat) (h2 : d ≠ 2) (h3 : d ≠ 3) (v : Value) (c : List PanicEntry) (a : Act) (W : World) (h : RPan w r lb G n E (.panic c) (a.put (some d) v) W) : RPan w r lb G n E (.panic c) a W := by
  obtain ⟨k1, k2, k3, k4, k5⟩ := h
  rw [put_defers] at k2
  rw [getD_put_other _ _ _ _ h2] at k3
  rw [getD_put_other _ _ _ _ h3] at k4
  exact ⟨k1, k2, k3, k4, k5⟩

set_option maxRecDepth 100000 in
set_option maxHeartbeats 4000000 in
theorem pdecode_any (A : Option Addr) (n c : Nat) (xs : Bs) (w : World) (hr : Row w A (cellsB xs)) (hn : n = xs.length) (hA : A = none → n = 0) (hlen : n ≤ 140737488355328) :
    Calls Tryz.prog 98 #[.slice A n c] w (DPost xs w) := by
  have hmf : ∀ (fn : Fn) (first cap : Array Value) (w : World), (Instr.makeFunc fn first cap).run Tryz.prog w = .ok (.func fn first cap) w := fun _ _ _ _ => rfl
  have Hn := Lib.hid hn
  clear hn
  go_enter_defers Tryz.func98, Tryz.ntmps98
  go_wp2_with fail
  refine (shapes_any _).mono ?_; rintro e w1 ⟨ct, rfl, hS, hb1⟩
  have hcs := hS.1
  have hst := fun (c0 : Array Value) (h0 : c0.size = 34) W => store_new 184 ct (by rw [hcs]; kernel_rfl) hS.2.1 c0 (by rw [h0, hcs]) W
  have LP1 := ((Loc.new w #[.string ⟨#[]⟩, .int .i64 0, .slice none 0 0] 54).alloc (.cells #[.int .i64 0] 25)).below hb1 (by simp only [World.size_alloc]; omega)
  have LE1 := (Loc.new (w.alloc (.cells #[.string ⟨#[]⟩, .int .i64 0, .slice none 0 0] 54)) #[.int .i64 0] 25).below hb1 (by simp)
  simp only [World.size_alloc] at LE1
  have b1 := below_then (((Below.refl w.heap.size w).alloc (Nat.le_refl _) (.cells #[.string ⟨#[]⟩, .int .i64 0, .slice none 0 0] 54)).alloc (by simp) (.cells #[.int .i64 0] 25)) hb1 (by simp only [World.size_alloc]; omega)
  have hT1 : Tab (w1.alloc (.cells ct 184)) w1.heap.size := ⟨ct, _, Loc.new _ _ _, hS.keep (fun g cs t _ h => h.alloc _)⟩
  have LP2 := LP1.alloc (.cells ct 184)
  have LE2 := LE1.alloc (.cells ct 184)
  have b2 := b1.alloc b1.size (.cells ct 184)
  have hw1 := LE1.lt
  clear hS LP1 LE1 b1 hb1
  go_wp2_with fail
  refine (read_any A n c xs _ (hr.of_below b2 (Nat.le_refl _)) Hn.out hA hlen).mono ?_; rintro e w2 ⟨r, rfl, hrge, hR2, hb2⟩
  have hT2 := hT1.below hb2 (Nat.le_refl _)
  have LP3 := LP2.below hb2 LP2.lt
  have LE3 := LE2.below hb2 LE2.lt
  have b3 := below_then b2 hb2 b2.size
  simp only [World.size_alloc] at hrge
  clear hT1 LP2 LE2 b2 hb2 hst hcs
  obtain ⟨sb, r1, h1⟩ : ∃ sb r1, (Rdr.new xs).text 32 = (sb, r1) := ⟨_, _, rfl⟩
  obtain ⟨ar, r2, h2⟩ : ∃ ar r2, r1.number = (ar, r2) := ⟨_, _, rfl⟩
  obtain ⟨nn, r3, h3⟩ : ∃ nn r3, r2.number = (nn, r3) := ⟨_, _, rfl⟩
  have hde := procDecode_eq h1 h2 h3
  have hnn := number_nonneg r2
  rw [h3] at hnn
  simp only at hnn
  have H1 := Lib.hid h1
  have H2 := Lib.hid h2
  have H3 := Lib.hid h3
  have HDE := Lib.hid hde
  have hgt : w.heap.size ≤ r := by omega
  have D4 : DSt w (w2.alloc (.cells #[.pointer (some ⟨r, 0, none⟩), .int .i64 n] 205)) r w1.heap.size w2.heap.size n (Rdr.new xs) (.string ⟨#[]⟩) (.int .i64 0) (.slice none 0 0) :=
    ⟨LP3.alloc _, LE3.alloc _, Loc.new _ _ _, hR2.alloc _, hT2.alloc _, b3.alloc b3.size _⟩
  clear h1 h2 h3 hde LP3 LE3 hT2 b3 hR2
  go_wp2_with fail
  refine (rtext_any r _ 32 (by decide) (by decide) _ D4.rd).mono ?_; rw [H1.out]; rintro e w3 ⟨rfl, hS⟩
  have D5 := D4.step hS hgt
  have D6 := D5.set0 (.string (ofBs sb))
  have p0 := D5.lp.cell 0; have f0 := D5.lp.free 0; have g0 := D5.g.cell 0
  simp at p0 g0
  have hne1 : (w2.heap.size : Nat) ≠ w.heap.size := D5.g.ne D5.lp (by decide)
  clear D4 hS D5
  go_wp2_with fail
  refine (rnumber_any r _ _ D6.rd).mono ?_; rw [H2.out]; rintro e w4 ⟨rfl, hS⟩
  have D7 := D6.step hS hgt
  have D8 := D7.set1 (.int .i64 ar)
  have p1 := D7.lp.cell 1; have f1 := D7.lp.free 1; have g1 := D7.g.cell 0
  simp at p1 g1
  clear D6 hS D7 p0 f0 g0
  go_wp2_with fail
  refine (rnumber_any r _ _ D8.rd).mono ?_; rw [H3.out]; rintro e w5 ⟨rfl, hS⟩
  have D9 := D8.step hS hgt
  have g2 := D9.g.cell 0; have g3 := D9.g.cell 1
  simp at g2 g3
  clear D8 hS p1 f1 g1
  go_wp2_with fail
  refine (sure_any r _ n _ D9.rd).mono ?_; rintro e w6 ⟨rfl, hS⟩
  have D10 := D9.step hS hgt
  clear D9 hS g2 g3
  by_cases he : r3.err = 0
  · have hde := HDE.out
    rw [if_neg (by simp [he])] at hde
    simp only [if_pos he]
    have HE := Lib.hid he
    clear he
    by_cases h64 : 64 < nn
    · rw [if_pos h64] at hde
      have HDE2 := Lib.hid hde
      have p0 := D10.lp.cell 0; have p1 := D10.lp.cell 1; have p2 := D10.lp.cell 2; have p3 := D10.le.cell 0
      have f0 := D10.lp.free 0; have f1 := D10.lp.free 1; have f2 := D10.lp.free 2; have f3 := D10.le.free 0
      simp at p0 p1 p2 p3
      clear hde
      go_wp2
      exact D10.nothing _ rfl rfl rfl HDE2.out
    · rw [if_neg h64] at hde
      have HDE2 := Lib.hid hde
      clear hde
      go_wp2
      obtain ⟨N, rfl⟩ := Int.eq_ofNat_of_zero_le hnn.1
      have hN : N ≤ 64 := by omega
      rw [Int.toNat_natCast] at HDE2
      go_loopw [34] (fun i wr => ∃ k l q A' c', k ≤ N ∧ i = .int .i64 (k : Nat) ∧ l.length = k ∧ DSt w wr r w1.heap.size w2.heap.size n q (.string (ofBs sb)) (.int .i64 ar) (.slice A' k c') ∧
          wr.ownsRow w.heap.size 109 8 (.slice A' k c') k (codeCells l) ∧ readCode xs.length N r3 [] = readCode xs.length (N - k) q l) (fun i _ => N - (intOf i).toNat)
      case atStart => exact ⟨0, [], r3, none, 0, Nat.zero_le _, rfl, rfl, D10, World.ownsRow_nil _ _ _ _, rfl⟩
      case round =>
        obtain ⟨wi, rfl⟩ : ∃ wi, wi = wr := ⟨_, rfl⟩
        obtain ⟨k, l, q, A', c', hk, rfl, hl, DI, hown, hrc⟩ := hrel
        have HRC := Lib.hid hrc
        clear D10 hrc
        by_cases hkN : k < N
        · obtain ⟨X, q2, e, hri⟩ : ∃ X q2 e, readIns n q = ((X, q2), e) := ⟨_, _, _, rfl⟩
          have hst := HRC.out
          rw [show N - k = (N - (k + 1)) + 1 by omega, readCode_step, ← Hn.out, hri] at hst
          simp only at hst
          rw [Hn.out] at hst
          have HRI := Lib.hid hri
          have HST := Lib.hid hst
          have hkN' : (k : Int) < (N : Int) := by omega
          have g0 := DI.g.cell 0; have g1 := DI.g.cell 1; have p2 := DI.lp.cell 2; have f2 := DI.lp.free 2
          simp at g0 g1 p2
          clear hst hri HRC
          by_cases he : e = 0
          · subst he
            have hst := HST.out
            rw [if_neg (by simp)] at hst
            have HST2 := Lib.hid hst
            have hcall := fun W (hT : Tab W w1.heap.size) (hR : Rd W r q) => rinstr_any w1.heap.size r q n W hT hR hlen
            rw [HRI.out] at hcall
            simp only [if_true] at hcall
            obtain ⟨cs, hcs⟩ : ∃ cs, cs = insCells X := ⟨_, rfl⟩
            have hcc : codeCells (l ++ [X]) = codeCells l ++ cs.toList := by rw [hcs]; simp [codeCells]
            have HCC := Lib.hid hcc
            clear hcc
            obtain ⟨xo, xa, xb, xc, xn, xv⟩ := X
            simp only [insCells] at hcall hcs
            subst hcs
            have HCALL := Lib.hid hcall
            have haft : ∀ w7, RdStep wi.drew w7 r q2 → DSt w w7 r w1.heap.size w2.heap.size n q2 (.string (ofBs sb)) (.int .i64 ar) (.slice A' k c') ∧
                w7.cell? ⟨w2.heap.size, 0, none⟩ = some (.pointer (some ⟨r, 0, none⟩)) ∧ w7.cell? ⟨w2.heap.size, 1, none⟩ = some (.int .i64 n) ∧
                w7.cell? ⟨w.heap.size, 2, none⟩ = some (.slice A' k c') ∧ w7.frozen? ⟨w.heap.size, 2, none⟩ = false ∧
                DSt w (w7.alloc (.cells #[.int .i64 xo, .int .i64 xa, .int .i64 xb, .int .i64 xc, .int .i64 xn, .int .i64 xv.kind, .int .i64 xv.num, .string xv.text] 109)) r w1.heap.size w2.heap.size n q2 (.string (ofBs sb)) (.int .i64 ar) (.slice A' k c') ∧
                (w7.alloc (.cells #[.int .i64 xo, .int .i64 xa, .int .i64 xb, .int .i64 xc, .int .i64 xn, .int .i64 xv.kind, .int .i64 xv.num, .string xv.text] 109)).cell? ⟨w2.heap.size, 0, none⟩ = some (.pointer (some ⟨r, 0, none⟩)) ∧
                (w7.alloc (.cells #[.int .i64 xo, .int .i64 xa, .int .i64 xb, .int .i64 xc, .int .i64 xn, .int .i64 xv.kind, .int .i64 xv.num, .string xv.text] 109)).cell? ⟨w2.heap.size, 1, none⟩ = some (.int .i64 n) ∧
                (w7.alloc (.cells #[.int .i64 xo, .int .i64 xa, .int .i64 xb, .int .i64 xc, .int .i64 xn, .int .i64 xv.kind, .int .i64 xv.num, .string xv.text] 109)).cell? ⟨w.heap.size, 2, none⟩ = some (.slice A' k c') ∧
                (w7.alloc (.cells #[.int .i64 xo, .int .i64 xa, .int .i64 xb, .int .i64 xc, .int .i64 xn, .int .i64 xv.kind, .int .i64 xv.num, .string xv.text] 109)).ownsRow 0 109 8 (.slice A' k c') k (codeCells l) ∧
                Src Tryz.prog 8 52 (.slice (some ⟨w7.heap.size, 0, none⟩) 1 1) 1 (#[.int .i64 xo, .int .i64 xa, .int .i64 xb, .int .i64 xc, .int .i64 xn, .int .i64 xv.kind, .int .i64 xv.num, .string xv.text] : Array Value).toList (w7.alloc (.cells #[.int .i64 xo, .int .i64 xa, .int .i64 xb, .int .i64 xc, .int .i64 xn, .int .i64 xv.kind, .int .i64 xv.num, .string xv.text] 109)) := by
              intro w7 hS
              have D7 := DI.drew.step hS hgt
              have D7a := D7.alloc (.cells #[.int .i64 xo, .int .i64 xa, .int .i64 xb, .int .i64 xc, .int .i64 xn, .int .i64 xv.kind, .int .i64 xv.num, .string xv.text] 109)
              have hown7 := owns_keep (show wi.drew.ownsRow w.heap.size 109 8 (.slice A' k c') k (codeCells l) from hown) (hS.2) (Nat.le_refl _) (fun k hk hr => DI.rdb (fun c t f h0 ht => owns_ne hown h0 (by rw [ht]; decide) (hr ▸ hk)))
              have hown7a := owns_base (base' := 0) (owns_keep hown7 ((Keep.refl w7.heap.size (fun _ => False) w7).alloc (Nat.le_refl _) (.cells #[.int .i64 xo, .int .i64 xa, .int .i64 xb, .int .i64 xc, .int .i64 xn, .int .i64 xv.kind, .int .i64 xv.num, .string xv.text] 109)) (Nat.le_refl _) (fun _ _ f => f)) (fun _ _ => Nat.zero_le _)
              have hsrc := Row.src (P := Tryz.prog) (c := 1) (size := 8) (n := 1) (tx := 52) (Row.of_loc (Loc.new w7 #[.int .i64 xo, .int .i64 xa, .int .i64 xb, .int .i64 xc, .int .i64 xn, .int .i64 xv.kind, .int .i64 xv.num, .string xv.text] 109)) Tryz.underlying52 rfl (by simp [Value.oneCell']) (fun h => by simp at h)
              refine ⟨D7, ?_, ?_, ?_, D7.lp.free 2, D7a, ?_, ?_, ?_, hown7a, hsrc⟩
              · have := D7.g.cell 0; simpa using this
              · have := D7.g.cell 1; simpa using this
              · have := D7.lp.cell 2; simpa using this
              · have := D7a.g.cell 0; simpa only [List.getElem?_toArray, List.getElem?_cons_zero, List.getElem?_cons_succ] using this
              · have := D7a.g.cell 1; simpa only [List.getElem?_toArray, List.getElem?_cons_zero, List.getElem?_cons_succ] using this
              · have := D7a.lp.cell 2; simpa only [List.getElem?_toArray, List.getElem?_cons_zero, List.getElem?_cons_succ] using this
            have HAFT := Lib.hid haft
            clear hst hcall haft
            go_wp2_with fail
            refine wp_region_noPanic ?_
            go_region_law ((first | (go_simp; go_at_call 120; refine (HCALL.out _ DI.t.drew DI.drew.rd).mono ?_; rintro e7 w7 ⟨rfl, hS⟩; obtain ⟨D7, g0', g1', p2', f2', D7a, g0a, g1a, p2a, hown7a, hsrc⟩ := HAFT.out w7 hS) | (refine step_append_mine _ rfl _ _ 52 52 rfl 109 (.agg #[.int .i64 0, .int .i64 0, .int .i64 0, .int .i64 0, .int .i64 0, .int .i64 0, .int .i64 0, .string ⟨#[]⟩]) 8 72 Tryz.underlying52 (by kernel_rfl) rfl (by decide) _ _ _ rfl hown7a _ _ _ rfl hsrc (by simp only [maxLen]; omega) (by omega) ?_; intro A2 c2 w8 hown8 hg8 hb8 hx8; have D8 := D7a.grown hown7a hg8 (fun k hk => (hown.lt k hk).1); have g0b := D8.g.cell 0; have g1b := D8.g.cell 1; have p2b := D8.lp.cell 2; have f2b := D8.lp.free 2; have D9 := D8.set2 (.slice A2 (k + 1) c2); have g0c := D9.g.cell 0; have g1c := D9.g.cell 1; simp at g0b g1b p2b g0c g1c)))
            all_goals
              clear HAFT HCALL hx8
              refine NoPanic.normal ?_
              go_wp2
              go_roundw
              case rel =>
                refine ⟨k + 1, _, q2, A2, c2, by omega, by go_num, by simp [hl], D9, ?_, HST2.out⟩
                rw [HCC.out]
                refine owns_setCell (a := ⟨w.heap.size, 2, none⟩) (owns_base hown8 (fun kb hkb => ?_)) (owns_ne hown8 D8.lp (by decide)) _
                rcases hb8 kb hkb with h | h
                · exact (hown.lt kb h).1
                · have := D7.b.size
                  rw [h, World.size_alloc]; omega
              case measure => simp [intOf]; omega
          · have hst := HST.out
            rw [if_pos he] at hst
            have hde := HDE2.out
            rw [hst] at hde
            unfold decTail at hde
            simp only at hde
            rw [if_pos he] at hde
            have HDE3 := Lib.hid hde
            have hcall := fun W (hT : Tab W w1.heap.size) (hR : Rd W r q) => rinstr_any w1.heap.size r q n W hT hR hlen
            rw [HRI.out] at hcall
            simp only [if_neg he] at hcall
            have HCALL := Lib.hid hcall
            clear hst hde hcall he
            go_wp2_with fail
            refine Code.wp_mono (fun ex a W h => ?_) (?_ : Code.wp _ _ (RPan w r w1.heap.size w2.heap.size n e) _ _)
            · cases ex <;> first | exact (h : False).elim | skip
              obtain ⟨rfl, k2, k3, k4, _, _, _, _, hD⟩ := h
              exact hD.panic _ k2 k3 k4 HDE3.out
            · refine wp_region_held_drew (S := fun W => W.cell? ⟨w2.heap.size, 0, none⟩ = some (.pointer (some ⟨r, 0, none⟩)) ∧ W.cell? ⟨w2.heap.size, 1, none⟩ = some (.int .i64 n) ∧ W.cell? ⟨w.heap.size, 2, none⟩ = some (.slice A' k c')) (by kernel_rfl) ⟨g0, g1, p2⟩ (fun hH => ?_)
              refine wpAnyH_take (i := 0) (v := ?_) rfl (by kernel_rfl) (by kernel_rfl) (by kernel_rfl) (RPan.put 36 (by decide) (by decide) _) (Or.inl ⟨by rfl, ?_⟩) hH ?_
              rotate_left
              · intro W hW
                obtain ⟨q0, q1, q2⟩ := hW
                go_simp
                try with_reducible rfl
              refine wpAnyH_take (i := 1) (v := ?_) rfl (by kernel_rfl) (by kernel_rfl) (by kernel_rfl) (RPan.put 37 (by decide) (by decide) _) (Or.inl ⟨by rfl, ?_⟩) hH ?_
              rotate_left
              · intro W hW
                obtain ⟨q0, q1, q2⟩ := hW
                go_simp
                try with_reducible rfl
              refine wpAnyH_take (i := 2) (v := ?_) rfl (by kernel_rfl) (by kernel_rfl) (by kernel_rfl) (RPan.put 38 (by decide) (by decide) _) (Or.inl ⟨by rfl, ?_⟩) hH ?_
              rotate_left
              · intro W hW
                obtain ⟨q0, q1, q2⟩ := hW
                go_simp
                try with_reducible rfl
              refine wpAnyH_ready (rs := [3]) (by kernel_rfl) (by simp) ?_
              refine AllReadyH.cons rfl (fun K hK => ?_) AllReadyH.nil
              go_simp
              refine (HCALL.out _ DI.t.drew DI.drew.rd).mono ?_; rintro e7 w7 ⟨rfl, hS⟩
              exact ⟨rfl, rfl, rfl, rfl, _, _, _, _, DI.drew.step hS hgt⟩
        · obtain rfl : k = N := by omega
          have hst := HRC.out
          rw [Nat.sub_self, readCode] at hst
          have hde := HDE2.out
          rw [hst] at hde
          unfold decTail at hde
          simp only at hde
          rw [if_neg (by simp)] at hde
          have hok := readCode_ok H1.out H2.out H3.out HE.out (by rw [Int.toNat_natCast]; exact hst)
          have HOK := Lib.hid hok
          have HDE3 := Lib.hid hde
          have g0 := DI.g.cell 0
          simp at g0
          clear hst hde hok HRC HDE2 HDE
          go_wp2_with fail
          refine (rend_any r _ _ DI.rd).mono ?_; rintro e w7 ⟨rfl, hS⟩
          have D7 := DI.step hS hgt
          have hown7 := owns_keep hown (hS.2) (Nat.le_refl _) (fun k hk hr => DI.rdb (fun c t f h0 ht => owns_ne hown h0 (by rw [ht]; decide) (hr ▸ hk)))
          have p0 := D7.lp.cell 0; have p1 := D7.lp.cell 1; have p2 := D7.lp.cell 2; have p3 := D7.le.cell 0
          have f0 := D7.lp.free 0; have f1 := D7.lp.free 1; have f2 := D7.lp.free 2; have f3 := D7.le.free 0
          simp at p0 p1 p2 p3
          clear hS DI hown g0
          by_cases hen : q.end_ = 0
          · have hte : (q.end_ != 0) = false := by simp [hen]
            have hde := HDE3.out
            rw [if_neg (by simp [hen])] at hde
            have HDE4 := Lib.hid hde
            have hck := fun W (h : Row W A' (codeCells l)) => pcheck_any ⟨ofBs sb, ar, l⟩ A' c' W h (by show l.length ≤ 140737488355328; omega) HOK.out
            obtain ⟨z1, z2, hz⟩ : ∃ z1 z2, procCheck ⟨ofBs sb, ar, l⟩ = (z1, z2) := ⟨_, _, rfl⟩
            rw [hz] at hck HDE4
            simp only [procCells, hl] at hck HDE4
            have HCK := Lib.hid hck
            clear hde hen hck hz HDE3
            go_wp2_with fail
            refine (HCK.out _ (Row.of_owns hown7)).mono ?_; rintro e w8 ⟨rfl, hb8⟩
            have D8 := D7.below hb8
            have hown8 := owns_mono' hown7 hb8
            have p0' := D8.lp.cell 0; have p1' := D8.lp.cell 1; have p2' := D8.lp.cell 2; have p3' := D8.le.cell 0
            have f0' := D8.lp.free 0; have f1' := D8.lp.free 1; have f2' := D8.lp.free 2; have f3' := D8.le.free 0
            simp at p0' p1' p2' p3'
            clear p0 p1 p2 p3 f0 f1 f2 f3 hb8 D7 hown7
            by_cases hz2 : z2 = 0
            · have ht : (z2 != 0) = false := by simp [hz2]
              have hde := HDE4.out
              rw [if_neg (by simp [hz2])] at hde
              have HDE5 := Lib.hid hde
              clear hde hz2
              go_wp2
              exact D8.good hl _ rfl rfl rfl hown8 HDE5.out
            · have ht : (z2 != 0) = true := by simp [hz2]
              have hde := HDE4.out
              rw [if_pos hz2] at hde
              have HDE5 := Lib.hid hde
              clear hde hz2
              go_wp2
              exact D8.nothing _ rfl rfl rfl HDE5.out
          · have hte : (q.end_ != 0) = true := by simp [hen]
            have hde := HDE3.out
            rw [if_pos hen] at hde
            have HDE4 := Lib.hid hde
            clear hde hen
            go_wp2
            exact D7.nothing _ rfl rfl rfl HDE4.out
  · have hde := HDE.out
    rw [if_pos he] at hde
    simp only [if_neg he]
    have HDE2 := Lib.hid hde
    clear he hde
    go_wp2
    exact D10.panic _ rfl rfl rfl HDE2.out
end Go.Proofs.YtnieminnnkbneaaGreat
