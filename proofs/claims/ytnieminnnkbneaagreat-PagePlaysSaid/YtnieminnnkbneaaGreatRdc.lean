/- page.Read: the closure that recovers, the doors, the plain steps. -/
import Derived.Test.YtnieminnnkbneaaGreatMn
import Derived.Recover
namespace Go.Proofs.YtnieminnnkbneaaGreat
open Go.RowKit

theorem zeroFn (w : World) : (zeroValue 81).run Tryz.prog w = .ok .nilFunc w := by kernel_rfl
def imgZ : Array Value := #[.int .i64 0, .int .i64 0, .slice none 0 0, .slice none 0 0]
def putI (w : World) (p q : Nat) (u0 u1 u2 u3 u4 : Value) : World := ((((w.setCell ⟨p, 0, none⟩ u0).setCell ⟨p, 1, none⟩ u1).setCell ⟨p, 2, none⟩ u2).setCell ⟨p, 3, none⟩ u3).setCell ⟨q, 0, none⟩ u4
theorem putI_p {w : World} {p q : Nat} {c0 c1 c2 c3 : Value} (h : Loc w p #[c0, c1, c2, c3] 41) (hpq : p ≠ q) (u0 u1 u2 u3 u4 : Value) : Loc (putI w p q u0 u1 u2 u3 u4) p #[u0, u1, u2, u3] 41 :=
 ((((h.set 0 u0).set 1 u1).set 2 u2).set 3 u3).other (a := ⟨q, 0, none⟩) hpq u4
theorem putI_q {w : World} {p q : Nat} {c0 : Value} (h : Loc w q #[c0] 25) (hpq : p ≠ q) (u0 u1 u2 u3 u4 : Value) : Loc (putI w p q u0 u1 u2 u3 u4) q #[u4] 25 :=
 ((((h.other (a := ⟨p, 0, none⟩) (Ne.symm hpq) u0).other (a := ⟨p, 1, none⟩) (Ne.symm hpq) u1).other (a := ⟨p, 2, none⟩) (Ne.symm hpq) u2).other (a := ⟨p, 3, none⟩) (Ne.symm hpq) u3).set 0 u4
theorem putI_below {B : Nat} {a w : World} {p q : Nat} (h : Below B a w) (hp : B ≤ p) (hq : B ≤ q) (u0 u1 u2 u3 u4 : Value) : Below B a (putI w p q u0 u1 u2 u3 u4) :=
 ((((h.setCell (p := ⟨p, 0, none⟩) hp u0).setCell (p := ⟨p, 1, none⟩) hp u1).setCell (p := ⟨p, 2, none⟩) hp u2).setCell (p := ⟨p, 3, none⟩) hp u3).setCell (p := ⟨q, 0, none⟩) hq u4
theorem putI_owns {W : World} {base p q size n : Nat} {e : TypeId} {v : Value} {xs : List Value} (h : W.ownsRow base e size v n xs) (hp : v.ownBlock ≠ some p) (hq : v.ownBlock ≠ some q) (u0 u1 u2 u3 u4 : Value) : (putI W p q u0 u1 u2 u3 u4).ownsRow base e size v n xs :=
 owns_setCell (a := ⟨q, 0, none⟩) (owns_setCell (a := ⟨p, 3, none⟩) (owns_setCell (a := ⟨p, 2, none⟩) (owns_setCell (a := ⟨p, 1, none⟩) (owns_setCell (a := ⟨p, 0, none⟩) h hp u0) hp u1) hp u2) hp u3) hq u4

set_option maxRecDepth 100000 in
theorem pcatch_panicking (p q : Nat) (c0 c1 c2 c3 e0 : Value) (E : Int) (older : List PanicEntry) (w : World) (hp : Loc w p #[c0, c1, c2, c3] 41) (hq : Loc w q #[e0] 25) (hpq : p ≠ q) :
  CallsD Tryz.prog 22 #[.pointer (some ⟨p, 0, none⟩), .pointer (some ⟨q, 0, none⟩)] (.panicking ({ v := .iface 70 (.int .i64 E), recovered := false } :: older)) w fun e u' w' =>
   e = .returned (.tuple #[]) ∧ u' = .panicking ({ v := .iface 70 (.int .i64 E), recovered := true } :: older) ∧
    w' = putI w p q (.int .i64 0) (.int .i64 0) (.slice none 0 0) (.slice none 0 0) (.int .i64 E) := by
 have ta : ∀ t W, (Instr.typeAssert (.iface 70 (.int .i64 E)) t 70 true).run Tryz.prog W = .ok (.tuple #[.int .i64 E, .bool true]) W := fun t W => by kernel_rfl
 have k0 := hp.cell 0; have k1 := hp.cell 1; have k2 := hp.cell 2; have k4 := hp.cell 3; have k3 := hq.cell 0
 have f0 := hp.free 0; have f1 := hp.free 1; have f2 := hp.free 2; have f4 := hp.free 3; have f3 := hq.free 0
 simp at k0 k1 k2 k3 k4
 unfold putI
 refine callsD_of_wpS Tryz.func22 rfl fun c₀ cs hu => ?_
 apply wpS_seq
 apply wpS_region
 simp [wpOpsS, go_sem, recoverD, hu, Tryz.ntmps22, Exit.thenS, ta]
 apply wpS_seq
 apply wpS_region
 simp [wpOpsS, go_sem, Exit.thenS]
 refine wpS_cond (t := true) (by simp [Act.eval]) ?_
 simp only [if_true]
 refine wpS_of_wp ?_
 simp [Array.replicate]
 go_wp2
 simp [bodyPostS, results, Tryz.results22]

set_option maxRecDepth 100000 in
theorem pcatch_idle (p q : Nat) (w : World) :
  CallsD Tryz.prog 22 #[.pointer (some ⟨p, 0, none⟩), .pointer (some ⟨q, 0, none⟩)] .returning w fun e u' w' => e = .returned (.tuple #[]) ∧ u' = .returning ∧ w' = w := by
 have ta : ∀ t W, (Instr.typeAssert .nilIface t 70 true).run Tryz.prog W = .ok (.tuple #[.int .i64 0, .bool false]) W := fun t W => by kernel_rfl
 refine callsD_of_wpS Tryz.func22 rfl fun c₀ cs hu => ?_
 apply wpS_seq
 apply wpS_region
 simp [wpOpsS, go_sem, recoverD, hu, Tryz.ntmps22, Exit.thenS, ta]
 apply wpS_seq
 apply wpS_region
 simp [wpOpsS, go_sem, Exit.thenS]
 refine wpS_cond (t := false) (by simp [Act.eval]) ?_
 simp only [Bool.false_eq_true, if_false]
 refine wpS_of_wp (wp_skip ?_)
 cases c₀
 simp_all [bodyPostS, results, Tryz.results22]

/-- What Read defers. -/
def pdfr (p q : Nat) : Deferred := { target := Target.fn (Fn.func 22) #[.pointer (some ⟨p, 0, none⟩), .pointer (some ⟨q, 0, none⟩)], args := #[] }

theorem pdoor_panic (p q : Nat) (c0 c1 c2 c3 e0 : Value) (E : Int) (a : Act) (w : World) (R : Ending → World → Prop) (hd : a.defers = [pdfr p q]) (h2 : a.tmps.getD 2 undef = .pointer (some ⟨p, 0, none⟩)) (h3 : a.tmps.getD 3 undef = .pointer (some ⟨q, 0, none⟩))
  (hp : Loc w p #[c0, c1, c2, c3] 41) (hq : Loc w q #[e0] 25) (hpq : p ≠ q)
  (hR : R (.returned (.tuple #[.agg imgZ, .int .i64 E])) (putI w p q (.int .i64 0) (.int .i64 0) (.slice none 0 0) (.slice none 0 0) (.int .i64 E))) :
  bodyPostD Tryz.prog Tryz.f11 R (.panic (prefusal E)) a w := by
 have Lp := putI_p hp hpq (.int .i64 0) (.int .i64 0) (.slice none 0 0) (.slice none 0 0) (.int .i64 E)
 have Lq := putI_q hq hpq (.int .i64 0) (.int .i64 0) (.slice none 0 0) (.slice none 0 0) (.int .i64 E)
 have k0 := Lp.cell 0; have k1 := Lp.cell 1; have k2 := Lp.cell 2; have k4 := Lp.cell 3; have k3 := Lq.cell 0
 simp only [List.getElem?_toArray, List.getElem?_cons_zero, List.getElem?_cons_succ] at k0 k1 k2 k3 k4
 simp only [Array.getD_eq_getD_getElem?] at h2 h3
 unfold imgZ at hR
 show Leaves Tryz.prog Tryz.f11 a.tmps R a.defers (.panicking (prefusal E)) w
 rw [hd]
 refine leaves_cons (f := 22) (args := #[.pointer (some ⟨p, 0, none⟩), .pointer (some ⟨q, 0, none⟩)]) (by simp) (by simp [go_sem]) ?_
 refine (pcatch_panicking p q c0 c1 c2 c3 e0 E [] w hp hq hpq).mono ?_
 rintro e u' w'' ⟨rfl, rfl, rfl⟩
 generalize putI w p q (.int .i64 0) (.int .i64 0) (.slice none 0 0) (.slice none 0 0) (.int .i64 E) = W at *
 refine ⟨_, ?_, hR⟩
 simp [results, Tryz.results11, go_sem, h2, h3, k0, k1, k2, k3, k4]

theorem pdoor_ret (p q : Nat) (c0 c1 c2 c3 e0 : Value) (a : Act) (w : World) (R : Ending → World → Prop) (hd : a.defers = [pdfr p q]) (h2 : a.tmps.getD 2 undef = .pointer (some ⟨p, 0, none⟩)) (h3 : a.tmps.getD 3 undef = .pointer (some ⟨q, 0, none⟩))
  (hp : Loc w p #[c0, c1, c2, c3] 41) (hq : Loc w q #[e0] 25)
  (hR : R (.returned (.tuple #[.agg #[c0, c1, c2, c3], e0])) w) :
  bodyPostD Tryz.prog Tryz.f11 R .ret a w := by
 have k0 := hp.cell 0; have k1 := hp.cell 1; have k2 := hp.cell 2; have k4 := hp.cell 3; have k3 := hq.cell 0
 simp only [List.getElem?_toArray, List.getElem?_cons_zero, List.getElem?_cons_succ] at k0 k1 k2 k3 k4
 simp only [Array.getD_eq_getD_getElem?] at h2 h3
 show Leaves Tryz.prog Tryz.f11 a.tmps R a.defers .returning w
 rw [hd]
 refine leaves_cons (f := 22) (args := #[.pointer (some ⟨p, 0, none⟩), .pointer (some ⟨q, 0, none⟩)]) (by simp) (by simp [go_sem]) ?_
 refine (pcatch_idle p q w).mono ?_
 rintro e u' w'' ⟨rfl, rfl, rfl⟩
 refine ⟨_, ?_, hR⟩
 simp [results, Tryz.results11, go_sem, h2, h3, k0, k1, k2, k3, k4]

/-- An image's rows, one's own from base on. -/
structure ImgO (W : World) (base : Nat) (m : RM) : Prop where
 hp : m.pl.map (·.p) = m.s.procs
 op : W.ownsRow base 54 3 (.slice m.P m.pl.length m.cp) m.pl.length (prcsCells m.pl)
 oc : ∀ y ∈ m.pl, y.own W base
 sep : SepP m.pl
 oe : W.ownsRow base 62 4 (.slice m.E m.s.entries.length m.ce) m.s.entries.length (entsCells m.s.entries)
def RM.img (m : RM) : Array Value := #[.int .i64 m.s.number, .int .i64 m.s.mark, .slice m.P m.pl.length m.cp, .slice m.E m.s.entries.length m.ce]
/-- What Read answers. -/
def RdPost (xs : Bs) (w : World) (e : Ending) (w' : World) : Prop :=
 ∃ m : RM, m.s = (pageRead xs).1 ∧ e = .returned (.tuple #[.agg m.img, .int .i64 (pageRead xs).2]) ∧ ImgO w' w.heap.size m ∧ Below w.heap.size w w'
theorem RdPost.none {xs : Bs} {w w' : World} {E : Int} (hx : pageRead xs = (.zero, E)) (hb : Below w.heap.size w w') : RdPost xs w (.returned (.tuple #[.agg imgZ, .int .i64 E])) w' :=
 ⟨RM.zero, by rw [hx]; rfl, by rw [hx]; rfl, ⟨rfl, World.ownsRow_nil _ _ _ _, (fun _ h => by cases h), sepP_nil, World.ownsRow_nil _ _ _ _⟩, hb⟩

/-- The image's and the error's blocks, as they were laid. -/
def PDr (w W : World) : Prop := Loc W w.heap.size imgZ 41 ∧ Loc W (w.heap.size + 1) #[.int .i64 0] 25 ∧ Below w.heap.size w W
theorem PDr.below {w w0 W : World} (h : PDr w w0) (hb : Below w0.heap.size w0 W) : PDr w W :=
 ⟨h.1.below hb h.1.lt, h.2.1.below hb h.2.1.lt, below_then h.2.2 hb h.2.2.size⟩
theorem PDr.of {w w0 W : World} {rb : Nat} (h : PDr w w0) (hb : Keep w0.heap.size (· = rb) w0 W) (hr : w.heap.size + 2 ≤ rb) : PDr w W :=
 ⟨h.1.keep hb h.1.lt (by omega), h.2.1.keep hb h.2.1.lt (by omega), below_keep h.2.2 hb h.2.2.size (fun k hk => by omega)⟩
theorem PDr.panic {xs : Bs} {w W : World} {E : Int} (h : PDr w W) (a : Act) (hd : a.defers = [pdfr w.heap.size (w.heap.size + 1)]) (h2 : a.tmps.getD 2 undef = .pointer (some ⟨w.heap.size, 0, none⟩)) (h3 : a.tmps.getD 3 undef = .pointer (some ⟨w.heap.size + 1, 0, none⟩)) (hx : pageRead xs = (.zero, E)) :
  bodyPostD Tryz.prog Tryz.f11 (RdPost xs w) (.panic (prefusal E)) a W :=
 pdoor_panic w.heap.size (w.heap.size + 1) _ _ _ _ _ E a W _ hd h2 h3 h.1 h.2.1 (by omega) (RdPost.none hx (putI_below h.2.2 (Nat.le_refl _) (by omega) _ _ _ _ _))
theorem PDr.good {xs : Bs} {w w0 W : World} {rb : Nat} {m : RM} (h : PDr w w0) (hs : w.heap.size + 2 ≤ w0.heap.size) (hr : w.heap.size + 2 ≤ rb) (D : RSt w0 W rb m) (a : Act) (hd : a.defers = [pdfr w.heap.size (w.heap.size + 1)]) (h2 : a.tmps.getD 2 undef = .pointer (some ⟨w.heap.size, 0, none⟩)) (h3 : a.tmps.getD 3 undef = .pointer (some ⟨w.heap.size + 1, 0, none⟩)) (hx : pageRead xs = (m.s, 0)) :
  bodyPostD Tryz.prog Tryz.f11 (RdPost xs w) .ret a (putI W w.heap.size (w.heap.size + 1) (.int .i64 m.s.number) (.int .i64 m.s.mark) (.slice m.P m.pl.length m.cp) (.slice m.E m.s.entries.length m.ce) (.int .i64 0)) := by
 have hW := h.of D.b hr
 have hpq : w.heap.size ≠ w.heap.size + 1 := by omega
 have out : ∀ {e : TypeId} {size n : Nat} {v : Value} {xs : List Value}, W.ownsRow w0.heap.size e size v n xs → (putI W w.heap.size (w.heap.size + 1) (.int .i64 m.s.number) (.int .i64 m.s.mark) (.slice m.P m.pl.length m.cp) (.slice m.E m.s.entries.length m.ce) (.int .i64 0)).ownsRow w.heap.size e size v n xs := fun ho =>
  putI_owns (owns_mono ho (by omega)) (fun e => by have := (ho.lt _ e).1; omega) (fun e => by have := (ho.lt _ e).1; omega) _ _ _ _ _
 refine pdoor_ret w.heap.size (w.heap.size + 1) _ _ _ _ _ a _ _ hd h2 h3 (putI_p hW.1 hpq _ _ _ _ _) (putI_q hW.2.1 hpq _ _ _ _ _) ⟨m, by rw [hx], by rw [hx]; rfl, ⟨D.hp, out D.op, fun y hy => out (D.oc y hy), D.sep, out D.oe⟩, putI_below hW.2.2 (Nat.le_refl _) (by omega) _ _ _ _ _⟩

/-- A region that gives up, and nothing else. -/
def PPan (w : World) (E : Int) : Exit → Act → World → Prop
 | .panic ch, a, W => ch = prefusal E ∧ a.defers = [pdfr w.heap.size (w.heap.size + 1)] ∧ a.tmps.getD 2 undef = .pointer (some ⟨w.heap.size, 0, none⟩) ∧ a.tmps.getD 3 undef = .pointer (some ⟨w.heap.size + 1, 0, none⟩) ∧ PDr w W
 | _, _, _ => False
theorem PPan.put {w : World} {E : Int} (d : Nat) (h2 : d ≠ 2) (h3 : d ≠ 3) (v : Value) (c : List PanicEntry) (a : Act) (W : World) (h : PPan w E (.panic c) (a.put (some d) v) W) : PPan w E (.panic c) a W := by
 obtain ⟨k1, k2, k3, k4, k5⟩ := h
 rw [put_defers] at k2
 rw [getD_put_other _ _ _ _ h2] at k3
 rw [getD_put_other _ _ _ _ h3] at k4
 exact ⟨k1, k2, k3, k4, k5⟩

theorem KM.keep {W V : World} {km rb : Nat} (h : KM W km rb) (hk : Keep W.heap.size (· = rb) W V) (hne : km ≠ rb) : KM V km rb := by
 unfold KM at *
 rw [hk.block km (blk_lt h) hne]
 exact h
theorem KM.rd {W V : World} {km rb ob : Nat} {r r' : Rdr} (h : KM W km rb) (hR : Rd W ob r) (hS : RdStep W V ob r') : KM V km rb := by
 unfold KM at *
 obtain ⟨d, h0, _⟩ := hR
 have hne : km ≠ ob := by
  rintro rfl
  rw [h] at h0
  cases h0
 rw [hS.2.block km (blk_lt h) hne]
 exact h
theorem KM.set {W : World} {km rb b o : Nat} {c : Array Value} {t : TypeId} (h : KM W km rb) (hl : Loc W b c t) (v : Value) : KM (W.setCell ⟨b, o, none⟩ v) km rb := by
 unfold KM at *
 have hne : km ≠ b := by
  rintro rfl
  unfold Loc at hl
  rw [h] at hl
  cases hl
 rw [Below.heap_setCell _ _ _ _ hne]
 exact h

/-! ### the plain steps -/
def RdRel (xs : Bs) (n at_ : Nat) (m : RM) : Prop :=
 (m.over = true → pageRead xs = if at_ = n then (m.s, 0) else (.zero, 3)) ∧ (m.over = false → ∃ f, n + 1 ≤ f + at_ ∧ pageRead xs = pgLoop xs f at_ m.s)
theorem RdRel.start (xs : Bs) : RdRel xs xs.length 0 RM.zero := ⟨(fun h => by cases h), fun _ => ⟨xs.length + 1, by omega, rfl⟩⟩
theorem RdRel.short {xs : Bs} {n at_ : Nat} {m : RM} (h : RdRel xs n at_ m) (ho : m.over = false) (ha : at_ ≤ n) (he : nextE xs at_ = 12) : pageRead xs = (.zero, 2) := by
 obtain ⟨f, hf, e⟩ := h.2 ho
 obtain ⟨g, rfl⟩ : ∃ g, f = g + 1 := ⟨f - 1, by omega⟩
 rw [e, pgLoop, if_pos he]
theorem RdRel.torn {xs : Bs} {n at_ : Nat} {m : RM} (h : RdRel xs n at_ m) (ho : m.over = false) (ha : at_ ≤ n) (h1 : nextE xs at_ ≠ 12) (h0 : nextE xs at_ ≠ 0) : pageRead xs = (.zero, 13) := by
 obtain ⟨f, hf, e⟩ := h.2 ho
 obtain ⟨g, rfl⟩ : ∃ g, f = g + 1 := ⟨f - 1, by omega⟩
 rw [e, pgLoop, if_neg h1, if_pos h0]
theorem RdRel.none {xs : Bs} {n at_ : Nat} {m : RM} (h : RdRel xs n at_ m) (ho : m.over = false) (ha : at_ ≤ n) (he : nextE xs at_ = 0) (hf : pgFrame m.s (bodyAt xs at_) = none) : pageRead xs = (.zero, 3) := by
 obtain ⟨f, _, e⟩ := h.2 ho
 obtain ⟨g, rfl⟩ : ∃ g, f = g + 1 := ⟨f - 1, by omega⟩
 rw [e, pgLoop, if_neg (by rw [he]; decide), if_neg (by rw [he]; decide), hf]
theorem RdRel.some {xs : Bs} {n at_ : Nat} {m m' : RM} (h : RdRel xs n at_ m) (hn : n = xs.length) (ho : m.over = false) (ha : at_ ≤ n) (he : nextE xs at_ = 0) (hf : pgFrame m.s (bodyAt xs at_) = some (m'.s, m'.over)) : RdRel xs n (at_ + 8 + wordAt xs at_) m' := by
 obtain ⟨f, h1, e⟩ := h.2 ho
 obtain ⟨g, rfl⟩ : ∃ g, f = g + 1 := ⟨f - 1, by omega⟩
 rw [pgLoop, if_neg (by rw [he]; decide), if_neg (by rw [he]; decide), hf] at e
 simp only at e
 rw [← hn] at e
 constructor
 ·intro h'
  rw [if_pos h'] at e
  exact e
 ·intro h'
  rw [if_neg (by rw [h']; decide)] at e
  exact ⟨g, by omega, e⟩

/-- Next, of any row. -/
theorem Nextr_any (xs : Bs) (A : Option Addr) (n c p : Nat) (hn : n = xs.length) (hnc : n ≤ c) (hlen : n ≤ 1000000000) (hp : p ≤ n) (w : World) (hr : Row w A (cellsB xs)) :
  Calls Tryz.prog 24 #[.slice A n c, .int .i64 p] w fun e w' => (∃ v, e = .returned v ∧ NextR xs n p w.heap.size v w') ∧ Below w.heap.size w w' := by
 rcases hr with h0 | ⟨b, off, rfl, hr⟩
 ·have hx : xs = [] := by simpa [cellsB] using h0
  subst hx
  obtain rfl : n = 0 := hn
  obtain rfl : p = 0 := by omega
  refine (Next0_any A c w).mono ?_
  rintro e w' ⟨rfl, hb⟩
  have e12 : nextE [] 0 = 12 := by unfold nextE; exact if_pos (by simp)
  exact ⟨⟨_, rfl, .inl ⟨by rw [e12]; decide, by rw [e12]; rfl⟩⟩, hb⟩
 ·exact Next_any xs b off n c p hn hnc hlen hp w (fun j hj => by
   rw [hr j (by rw [cellsB_length]; exact hj)]
   simp [cellsB, hj])
end Go.Proofs.YtnieminnnkbneaaGreat
