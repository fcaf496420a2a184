/- Walk of treadlelaw14.does: the walk itself. -/
import Derived.Test.YtnieminnnkbneaaGreatMh
import Derived.Test.YtnieminnnkbneaaGreatMj
import Derived.Test.YtnieminnnkbneaaGreatFlg
namespace Go.Proofs.YtnieminnnkbneaaGreat
open Go.RowKit
set_option linter.unusedVariables false

/-- The document's writer beside the program's: alike, or both have ended. -/
def RelW (x y : PW) : Prop := y = x ∨ (x = PW.zero ∧ y.live = false)
/-- Numbers within their bounds behind m pieces. -/
def Bd (m : Nat) (x : PW) : Prop := x.number ≤ 281474976710655 ∧ x.mark ≤ 281474976710655 ∧ x.frames ≤ 1000 * m ∧ x.procs ≤ 1000 * m ∧ x.entries ≤ 1000 * m

theorem pwProcs_bd : ∀ (l : List Prc) (x : PW) (ys : Bs), (pwProcs x ys l).1.2.frames ≤ x.frames + l.length ∧ (pwProcs x ys l).1.2.procs ≤ x.procs + l.length ∧ (pwProcs x ys l).1.2.entries = x.entries ∧ (pwProcs x ys l).1.2.number = x.number ∧ (pwProcs x ys l).1.2.mark = x.mark
 | [], x, ys => ⟨Nat.le_refl _, Nat.le_refl _, rfl, rfl, rfl⟩
 | p :: l, x, ys => by
  rw [pwProcs]
  by_cases h : pwProcE x p ≠ 0
  ·rw [if_pos h]; exact ⟨by simp only [List.length_cons]; omega, by simp only [List.length_cons]; omega, rfl, rfl, rfl⟩
  ·rw [if_neg h]
   obtain ⟨h1, h2, h3, h4, h5⟩ := pwProcs_bd l (pwProc x p) (ys ++ procFrame x p)
   have e1 : (pwProc x p).frames = x.frames + 1 := rfl
   have e2 : (pwProc x p).procs = x.procs + 1 := rfl
   refine ⟨by rw [List.length_cons]; omega, by rw [List.length_cons]; omega, h3, h4, h5⟩
theorem pwEnts_bd : ∀ (l : List Ent) (x : PW), (pwEnts x l).1.frames = x.frames ∧ (pwEnts x l).1.procs = x.procs ∧ (pwEnts x l).1.entries ≤ x.entries + l.length ∧ (pwEnts x l).1.number = x.number ∧ (pwEnts x l).1.mark = x.mark
 | [], x => ⟨rfl, rfl, Nat.le_refl _, rfl, rfl⟩
 | y :: l, x => by
  rw [pwEnts]
  by_cases h : pwEntE x y ≠ 0
  ·rw [if_pos h]; exact ⟨rfl, rfl, by simp only [List.length_cons]; omega, rfl, rfl⟩
  ·rw [if_neg h]
   obtain ⟨h1, h2, h3, h4, h5⟩ := pwEnts_bd l (pwEnt x y)
   have e1 : (pwEnt x y).entries = x.entries + 1 := rfl
   exact ⟨h1, h2, by rw [List.length_cons]; omega, h4, h5⟩
theorem pwPage_bd {m : Nat} {x : PW} {ps : List Prc} {es : List Ent} (h : Bd m x) : Bd (m + 1) (pwPage x ps es).1.2 := by
 have hx : Bd (m + 1) x := ⟨h.1, h.2.1, by have := h.2.2.1; omega, by have := h.2.2.2.1; omega, by have := h.2.2.2.2; omega⟩
 unfold pwPage
 by_cases hl : x.live = false
 ·rw [if_pos hl]; exact hx
 rw [if_neg hl]
 by_cases hn : ps.length + es.length = 0 ∨ 128 < ps.length + es.length
 ·rw [if_pos hn]; exact hx
 rw [if_neg hn]
 simp only
 by_cases hq : (pwProcs (pwHead x).2 (pwHead x).1 ps).2 ≠ 0
 ·rw [if_pos hq]; exact hx
 rw [if_neg hq]
 by_cases hu : (pwEnts (pwProcs (pwHead x).2 (pwHead x).1 ps).1.2 es).2 ≠ 0
 ·rw [if_pos hu]; exact hx
 rw [if_neg hu]
 have hb := pwHead_b x
 have h1 := pwProcs_bd ps (pwHead x).2 (pwHead x).1
 have h2 := pwEnts_bd es (pwProcs (pwHead x).2 (pwHead x).1 ps).1.2
 obtain ⟨a1, a2, a3, a4, a5⟩ := h
 by_cases he : es = []
 ·rw [if_pos he]
  refine ⟨?_, ?_, ?_, ?_, ?_⟩ <;> simp only <;> omega
 ·rw [if_neg he]
  refine ⟨?_, ?_, ?_, ?_, ?_⟩ <;> simp only <;> omega
theorem pwHead_bd {m : Nat} {x : PW} (h : Bd m x) : Bd (m + 1) { (pwHead x).2 with frames := (pwHead x).2.frames + 1, live := false } := by
 have hb := pwHead_b x
 obtain ⟨a1, a2, a3, a4, a5⟩ := h
 refine ⟨?_, ?_, ?_, ?_, ?_⟩ <;> simp only <;> omega
theorem Bd.up {m : Nat} {x : PW} (h : Bd m x) : Bd (m + 1) x := ⟨h.1, h.2.1, by have := h.2.2.1; omega, by have := h.2.2.2.1; omega, by have := h.2.2.2.2; omega⟩
theorem Bd.zero (m : Nat) : Bd m PW.zero := ⟨by decide, by decide, Nat.zero_le _, Nat.zero_le _, Nat.zero_le _⟩
theorem r14End_bd {m : Nat} {x : PW} (h : Bd m x) : Bd (m + 1) (r14End x).1.2 := by
 unfold r14End
 by_cases hl : x.live = false
 ·rw [if_pos hl]; exact h.up
 ·rw [if_neg hl]; exact pwHead_bd h
theorem pwEnd_bd {m : Nat} {x : PW} (h : Bd m x) : Bd (m + 1) (pwEndQ x).1.2 := by
 unfold pwEndQ
 by_cases hl : x.live = false
 ·rw [if_pos hl]; exact h.up
 ·rw [if_neg hl]; exact Bd.zero _

/-- One call on the program's writer. -/
def doQ (x : PW) (ps : List Prc) (es : List Ent) (fin : Bool) : (Bs × PW) × Int := if fin then pwEndQ x else pwPage x ps es
/-- The same on the document's. -/
def doR (x : PW) (ps : List Prc) (es : List Ent) (fin : Bool) : (Bs × PW) × Int := if fin then r14End x else pwPage x ps es
theorem do_rel {x y : PW} (h : RelW x y) (ps : List Prc) (es : List Ent) (fin : Bool) : (doQ x ps es fin).1.1 = (doR y ps es fin).1.1 ∧ (doQ x ps es fin).2 = (doR y ps es fin).2 ∧ RelW (doQ x ps es fin).1.2 (doR y ps es fin).1.2 := by
 unfold doQ doR
 cases fin with
 | true =>
  simp only [if_true]
  rcases h with rfl | ⟨rfl, h⟩
  ·unfold pwEndQ r14End
   by_cases hl : y.live = false
   ·rw [if_pos hl, if_pos hl]; exact ⟨rfl, rfl, .inl rfl⟩
   ·rw [if_neg hl, if_neg hl]; exact ⟨rfl, rfl, .inr ⟨rfl, rfl⟩⟩
  ·unfold pwEndQ r14End
   rw [if_pos (show PW.zero.live = false from rfl), if_pos h]
   exact ⟨rfl, rfl, .inr ⟨rfl, h⟩⟩
 | false =>
  simp only [if_false, Bool.false_eq_true]
  rcases h with rfl | ⟨rfl, h⟩
  ·exact ⟨rfl, rfl, .inl rfl⟩
  ·unfold pwPage
   rw [if_pos (show PW.zero.live = false from rfl), if_pos h]
   exact ⟨rfl, rfl, .inr ⟨rfl, h⟩⟩
theorem do_bd {m : Nat} {x : PW} {ps : List Prc} {es : List Ent} {fin : Bool} (h : Bd m x) : Bd (m + 1) (doQ x ps es fin).1.2 ∧ Bd (m + 1) (doR x ps es fin).1.2 := by
 unfold doQ doR
 cases fin with
 | true => exact ⟨pwEnd_bd h, r14End_bd h⟩
 | false => exact ⟨pwPage_bd h, pwPage_bd h⟩
/-- How many bytes a call gives out. -/
theorem do_len (x : PW) (ps : List Prc) (es : List Ent) (fin : Bool) : (doQ x ps es fin).1.1.length ≤ 4000000 := by
 unfold doQ
 cases fin with
 | true =>
  simp only [if_true]
  unfold pwEndQ
  by_cases hl : x.live = false
  ·rw [if_pos hl]; simp
  ·rw [if_neg hl]
   have h1 := (pwHead_b x).2.2.2.1
   have hb := (bodyF_le 4 (pwHead x).2.frames (encNumber (pwHead x).2.procs ++ encNumber (pwHead x).2.entries)).2
   have e3 := encNumber_le ((pwHead x).2.procs : Int)
   have e4 := encNumber_le ((pwHead x).2.entries : Int)
   rw [List.length_append] at hb
   unfold endFrame frameB
   simp only [List.length_append, headB_length]
   omega
 | false =>
  simp only [if_false, Bool.false_eq_true]
  by_cases hl : x.live = false
  ·unfold pwPage; rw [if_pos hl]; simp
  by_cases hn : ps.length + es.length = 0 ∨ 128 < ps.length + es.length
  ·unfold pwPage; rw [if_neg hl, if_pos hn]; simp
  by_cases hE : (pwPage x ps es).2 = 0
  ·have := pwPage_len (x := x) (x' := (pwPage x ps es).1.2) (ps := ps) (es := es) (ys := (pwPage x ps es).1.1) (by rw [← hE])
   omega
  ·have : (pwPage x ps es).1.1 = [] := by
    unfold pwPage at hE ⊢
    rw [if_neg hl, if_neg hn] at hE ⊢
    simp only at hE ⊢
    by_cases hq : (pwProcs (pwHead x).2 (pwHead x).1 ps).2 ≠ 0
    ·rw [if_pos hq]
    rw [if_neg hq] at hE ⊢
    by_cases hu : (pwEnts (pwProcs (pwHead x).2 (pwHead x).1 ps).1.2 es).2 ≠ 0
    ·rw [if_pos hu]
    rw [if_neg hu] at hE ⊢
    by_cases he : es = []
    ·rw [if_pos he] at hE; exact absurd rfl hE
    ·rw [if_neg he] at hE; exact absurd rfl hE
   rw [this]; simp
end Go.Proofs.YtnieminnnkbneaaGreat

namespace Go.Proofs.YtnieminnnkbneaaGreat
open Go.RowKit
set_option linter.unusedVariables false

/-- The blocks of does. -/
structure DS (w W : World) (pa : Nat) (x y : PW) (X : PieceC) : Prop where
 v4 : VLoc W w.heap.size y
 v5 : Loc W (w.heap.size + 1) X.cells 39
 v7 : VLoc W (w.heap.size + 2) PW.zero
 lp : Loc W pa (x.cells nilS) 56
 k : Keep w.heap.size (· = pa) w W
namespace DS
variable {w W V : World} {pa : Nat} {x x' y : PW} {X : PieceC}
theorem below (h : DS w W pa x y X) (hb : Below W.heap.size W V) : DS w V pa x y X :=
 ⟨Loc.below h.v4 hb (Loc.lt h.v4), h.v5.below hb h.v5.lt, Loc.below h.v7 hb (Loc.lt h.v7), h.lp.below hb h.lp.lt, h.k.step (Keep.of_below hb (fun _ => False)) h.k.size (fun _ _ f => f.elim)⟩
theorem step (h : DS w W pa x y X) (hp : pa < w.heap.size) (L : Loc V pa (x'.cells nilS) 56) (K : Keep W.heap.size (· = pa) W V) : DS w V pa x' y X :=
 ⟨Loc.keep h.v4 K (Loc.lt h.v4) (by omega), h.v5.keep K h.v5.lt (by omega), Loc.keep h.v7 K (Loc.lt h.v7) (by omega), L, h.k.step K h.k.size (fun _ _ f => f)⟩
end DS

/-- What does answers. -/
def DoP (w : World) (pa : Nat) (Q R : (Bs × PW) × Int) (e : Ending) (w' : World) : Prop :=
 ∃ A n c, n = Q.1.1.length ∧ e = .returned (.tuple #[.slice A n c, .agg R.1.2.val, .bool true]) ∧ w'.ownsRow w.heap.size 5 1 (.slice A n c) n (cellsB Q.1.1) ∧ Loc w' pa (Q.1.2.cells nilS) 56 ∧ Keep w.heap.size (· = pa) w w'

set_option maxRecDepth 100000 in
set_option maxHeartbeats 8000000 in
theorem does_any (pa m : Nat) (x y : PW) (X : PieceC) (ws w : World) (L : Loc w pa (x.cells nilS) 56) (hc0 : X.came ws) (hsw : Below ws.heap.size ws w) (hpas : ws.heap.size ≤ pa) (hrel : RelW x y) (hbx : Bd m x) (hby : Bd m y) (hm : m ≤ 1000) (h3p : X.ps.length ≤ 300) (h3e : X.es.length ≤ 300) (h3c : ∀ z ∈ X.ps, z.p.code.length ≤ 300) :
  Calls Tryz.prog 10 #[.pointer (some ⟨pa, 0, none⟩), .agg y.val, .agg X.cells] w (DoP w pa (doQ x (X.ps.map (·.p)) X.es X.fin) (doR y (X.ps.map (·.p)) X.es X.fin)) := by
 have hp := L.lt
 have hc := hc0.below hsw
 have hdr := do_rel hrel (X.ps.map (·.p)) X.es X.fin
 have hdl := do_len x (X.ps.map (·.p)) X.es X.fin
 obtain ⟨Q, hQ⟩ : ∃ Q, Q = doQ x (X.ps.map (·.p)) X.es X.fin := ⟨_, rfl⟩
 obtain ⟨R, hR⟩ : ∃ R, R = doR y (X.ps.map (·.p)) X.es X.fin := ⟨_, rfl⟩
 rw [← hQ, ← hR] at hdr ⊢
 rw [← hQ] at hdl
 obtain ⟨⟨ys, x'⟩, E⟩ := Q
 obtain ⟨⟨ys2, y'⟩, E2⟩ := R
 simp only at hdr hdl
 obtain ⟨h1, h2, _⟩ := hdr
 subst h1
 subst h2
 have S0 : DS w (((w.alloc (.cells y.val 29)).alloc (.cells X.cells 39)).alloc (.cells PW.zero.val 29)) pa x y X := by
  have b0 := (((Below.refl w.heap.size w).alloc (Nat.le_refl _) (.cells y.val 29)).alloc (by simp) (.cells X.cells 39)).alloc (by simp; omega) (.cells PW.zero.val 29)
  have V5 := (Loc.new (w.alloc (.cells y.val 29)) X.cells 39).alloc (.cells PW.zero.val 29)
  have V7 := Loc.new ((w.alloc (.cells y.val 29)).alloc (.cells X.cells 39)) PW.zero.val 29
  rw [World.size_alloc] at V5
  rw [World.size_alloc, World.size_alloc] at V7
  exact ⟨((Loc.new w y.val 29).alloc _).alloc _, V5, V7, L.below b0 hp, Keep.of_below b0 _⟩
 obtain ⟨W0, hW0⟩ : ∃ W0, W0 = ((w.alloc (.cells y.val 29)).alloc (.cells X.cells 39)).alloc (.cells PW.zero.val 29) := ⟨_, rfl⟩
 rw [← hW0] at S0
 have hsz0 : W0.heap.size = w.heap.size + 3 := by rw [hW0]; simp
 obtain ⟨ps, P, cp, es, F, ce, fin⟩ := X
 simp only at hQ hR h3p h3e h3c
 have hcP : PieceC.cells ⟨ps, P, cp, es, F, ce, fin⟩ = #[.slice P ps.length cp, .slice F es.length ce, .bool fin] := rfl
 rw [hcP] at hW0 ⊢
 have HW0 : Hid (((w.alloc (.cells #[.int .i64 y.number, .int .i64 y.mark, .int .i64 y.frames, .int .i64 y.procs, .int .i64 y.entries, .string y.name, .string y.key, .bool y.live] 29)).alloc (.cells #[.slice P ps.length cp, .slice F es.length ce, .bool fin] 39)).alloc (.cells #[.int .i64 0, .int .i64 0, .int .i64 0, .int .i64 0, .int .i64 0, .string ⟨#[]⟩, .string ⟨#[]⟩, .bool false] 29) = W0) := Lib.hid hW0.symm
 obtain ⟨np, hnp⟩ : ∃ np, np = ps.length := ⟨_, rfl⟩
 obtain ⟨ne, hne⟩ : ∃ ne, ne = es.length := ⟨_, rfl⟩
 rw [← hnp, ← hne] at HW0 ⊢
 have HNP := Lib.hid hnp
 have HNE := Lib.hid hne
 have HC := Lib.hid hc
 have HQ := Lib.hid hQ
 have HR := Lib.hid hR
 have HBX := Lib.hid hbx
 have HBY := Lib.hid hby
 have H3C := Lib.hid h3c
 have H3P := Lib.hid (And.intro h3p h3e)
 have HFIN : Hid (∀ (W : World) A c, W.ownsRow w.heap.size 5 1 (.slice A ys.length c) ys.length (cellsB ys) → Loc W pa (x'.cells nilS) 56 → Keep w.heap.size (· = pa) w W → DoP w pa ((ys, x'), E) ((ys, y'), E) (.returned (.tuple #[.slice A ys.length c, .agg y'.val, .bool true])) W) := Lib.hid (fun W A c o l k => ⟨A, ys.length, c, rfl, rfl, o, l, k⟩)
 have S0C : Hid (Below w.heap.size w W0) := Lib.hid (by
  rw [← HW0.out]
  exact (((Below.refl w.heap.size w).alloc (Nat.le_refl _) _).alloc (by simp) _).alloc (by simp; omega) _)
 have CKE : Hid (∀ V, Keep W0.heap.size (· = pa) W0 V → Row V P (prcsCells ps) ∧ Row V F (entsCells es) ∧ ∀ z ∈ ps, z.came V) := Lib.hid (fun V hV => by
  have hb := below_keep (below_then hsw S0C.out hsw.size) hV (by have := hsw.size; have := S0C.out.size; omega) (fun k hk => by omega)
  have h := hc0.below hb
  exact ⟨h.rp, h.re, h.ip⟩)
 clear hc0 hsw hW0 hcP hc hQ hR hbx hby hnp hne L hrel h3c h3p h3e
 unfold PW.val
 obtain ⟨k0, k1, k2, k3, k4, k5, k6, k7⟩ := VLoc.cells S0.v4
 have t0 := S0.v5.cell 0; have t1 := S0.v5.cell 1; have t2 := S0.v5.cell 2
 simp only [PieceC.cells, List.getElem?_toArray, List.getElem?_cons_zero, List.getElem?_cons_succ] at t0 t1 t2
 rw [← HNP.out] at t0
 rw [← HNE.out] at t1
 cases fin with
 | true =>
  have hpe := pend_any pa x W0 S0.lp (by have := HBX.out.1; omega) (by have := HBX.out.2.1; omega) (by have := HBX.out.2.2.1; omega) (by have := HBX.out.2.2.2.1; omega) (by have := HBX.out.2.2.2.2; omega)
  have hq := HQ.out
  unfold doQ at hq
  simp only [if_true] at hq
  rw [← hq] at hpe
  have hr := HR.out
  unfold doR at hr
  simp only [if_true] at hr
  have hre : ∀ W, Calls Tryz.prog 17 #[.agg #[.int .i64 y.number, .int .i64 y.mark, .int .i64 y.frames, .int .i64 y.procs, .int .i64 y.entries, .string y.name, .string y.key, .bool y.live]] W fun e w' => ∃ A c, e = .returned (.tuple #[.slice A ys.length c, .agg #[.int .i64 y'.number, .int .i64 y'.mark, .int .i64 y'.frames, .int .i64 y'.procs, .int .i64 y'.entries, .string y'.name, .string y'.key, .bool y'.live], .int .i64 E]) ∧ w'.ownsRow W.heap.size 5 1 (.slice A ys.length c) ys.length (cellsB ys) ∧ Below W.heap.size W w' := fun W => by
   have h := r14end_any y W (by have := HBY.out.1; omega) (by have := HBY.out.2.1; omega) (by have := HBY.out.2.2.1; omega) (by have := HBY.out.2.2.2.1; omega) (by have := HBY.out.2.2.2.2; omega)
   rw [← hr] at h
   exact h
  have HPE := Lib.hid hpe
  have HRE := Lib.hid hre
  clear hpe hq hr hre
  go_enter Tryz.func10, Tryz.ntmps10
  go_upto_region 1 with (fail)
  have p2 : w.heap.size + 1 + 1 = w.heap.size + 2 := by omega
  rw [HW0.out, p2]
  clear p2
  go_upto_region 3 with (go_at_call 16; refine HPE.out.mono ?_; rintro e w2 ⟨A2, n2, c2, hn2, rfl, o2, L2, K2⟩; have HN2 := Lib.hid hn2; clear hn2)
  have hn2 : n2 = ys.length := HN2.out
  subst hn2
  have S2 := S0.step hp L2 K2
  obtain ⟨k20, k21, k22, k23, k24, k25, k26, k27⟩ := VLoc.cells S2.v4
  have HO2 := Lib.hid o2
  clear k0 k1 k2 k3 k4 k5 k6 k7 t0 t1 t2 S0 o2 L2 K2 HPE
  go_upto_region 4 with (go_at_call 17; refine (HRE.out _).mono ?_; rintro e w3 ⟨A3, c3, rfl, o3, b3⟩)
  have ba := (Below.refl w3.heap.size w3).alloc (Nat.le_refl _) (.cells y'.val 29)
  have b3a := below_then b3 ba b3.size
  have V12 : VLoc (w3.alloc (.cells y'.val 29)) w3.heap.size y' := Loc.new w3 _ _
  have S3 := S2.below b3a
  have o23 := owns_mono' HO2.out b3a
  have o33 := owns_mono' o3 ba
  have hsz3 := b3.size
  have hsz2 := S2.k.size
  obtain ⟨q, hq⟩ : ∃ q, q = w3.heap.size := ⟨_, rfl⟩
  obtain ⟨W3, hW3⟩ : ∃ W3, W3 = w3.alloc (.cells y'.val 29) := ⟨_, rfl⟩
  rw [← hW3] at V12 S3 o23 o33
  rw [← hq] at V12
  unfold PW.val at hW3
  rw [← hW3, ← hq]
  have bd : Below W3.heap.size W3 W3.drew := below_drewN (Below.refl _ _) 1
  have hsm : ∀ V, Below W3.heap.size W3 V → Calls Tryz.prog 14 #[.slice A2 ys.length c2, .slice A3 ys.length c3] V fun e w' => e = .returned (.bool true) ∧ Below V.heap.size V w' := fun V hV => by
   have h := same_any A2 A3 ys.length ys.length c2 c3 ys ys V ((Row.of_owns o23).of_below hV (Nat.le_refl _)) ((Row.of_owns o33).of_below hV (Nat.le_refl _)) rfl rfl (by omega) (by omega)
   rw [decide_eq_true rfl] at h
   exact h
  have HSM := Lib.hid hsm
  have HSS : Hid (∀ V, Below W3.heap.size W3 V → DS w V pa x' y ⟨ps, P, cp, es, F, ce, true⟩ ∧ VLoc V q y' ∧ V.ownsRow w.heap.size 5 1 (.slice A2 ys.length c2) ys.length (cellsB ys)) := Lib.hid (fun V hV => ⟨S3.below hV, Loc.below V12 hV V12.lt, owns_mono (owns_mono' o23 hV) (by omega)⟩)
  obtain ⟨m0, m1, m2, m3, m4, m5, m6, m7⟩ := V12.cells
  clear hsm hW3 hq ba b3a b3 o3 V12 S3 o23 o33 S2 HO2 HRE k20 k21 k22 k23 k24 k25 k26 k27
  refine wp_region_noPanic ?_
  go_region_law ((go_simp; go_at_call 14; refine (HSM.out _ bd).mono ?_; rintro e5 w5 ⟨rfl, b5⟩; have b5' := below_then bd b5 (Nat.le_refl _); obtain ⟨n0, n1, n2', n3, n4, n5, n6, n7⟩ := (HSS.out w5 b5').2.1.cells; obtain ⟨z0, z1, z2, z3, z4, z5, z6, z7⟩ := (HSS.out w5 b5').1.v7.cells; obtain ⟨f0, f1, f2, f3, f4, f5, f6, f7⟩ := (HSS.out w5 b5').1.v7.free8))
  all_goals
   refine NoPanic.normal ?_
   go_wp2
   have S5 := (HSS.out w5 b5').1
   have o5 := (HSS.out w5 b5').2.2
   have Vf : VLoc (putV w5 (w.heap.size + 2) y') (w.heap.size + 2) y' := putV_loc S5.v7 y'
   have hres := HFIN.out (putV w5 (w.heap.size + 2) y') A2 c2 (putV_own o5 (owns_ne o5 S5.v7 (by decide)) y') (putV_other S5.lp (by omega) y') (putV_keep S5.k (by omega) y')
   obtain ⟨e0, e1, e2, e3, e4, e5, e6, e7⟩ := Vf.cells
   unfold putV at hres e0 e1 e2 e3 e4 e5 e6 e7
   exact bodyPost_ret (v := .tuple #[.slice A2 ys.length c2, .agg y'.val, .bool true]) (by simp [results, Tryz.results10, go_sem, e0, e1, e2, e3, e4, e5, e6, e7, PW.val]) rfl hres
 | false =>
  have hC0 := HC.out.below (S0C.out)
  have htw := ptwin_any ps es false P F cp ce W0 hC0.rp hC0.ip hC0.re hC0.ae H3P.out.1 H3P.out.2 H3C.out
  rw [← HNP.out, ← HNE.out] at htw
  have hq := HQ.out
  unfold doQ at hq
  simp only [if_false, Bool.false_eq_true] at hq
  have hr := HR.out
  unfold doR at hr
  simp only [if_false, Bool.false_eq_true] at hr
  have HQ2 := Lib.hid hq
  have HR2 := Lib.hid hr
  have HTW := Lib.hid htw
  have HC0 := Lib.hid hC0
  clear hq hr htw hC0
  go_enter Tryz.func10, Tryz.ntmps10
  go_upto_region 1 with (fail)
  have p2 : w.heap.size + 1 + 1 = w.heap.size + 2 := by omega
  rw [HW0.out, p2]
  clear p2
  go_upto_region 6 with (go_at_call 18; refine HTW.out.mono ?_; rintro e w2 ⟨G, H, ga, gb, lt, rfl, hmm, owG, hTT, owH, b2⟩; have HMM := Lib.hid hmm; rw [← HNP.out, ← HNE.out]; clear hmm)
  rw [← HNP.out] at owG
  rw [← HNE.out] at owH
  have ba := (Below.refl w2.heap.size w2).alloc (Nat.le_refl _) (.cells #[.slice (some ⟨G, 0, none⟩) np ga, .slice (some ⟨H, 0, none⟩) ne gb, .bool false] 39)
  have b2a := below_then b2 ba b2.size
  have S2 := S0.below b2a
  have V14 := Loc.new w2 #[.slice (some ⟨G, 0, none⟩) np ga, .slice (some ⟨H, 0, none⟩) ne gb, .bool false] 39
  have oG2 := owns_mono' owG ba
  have oH2 := owns_mono' owH ba
  have hT2 : ∀ z ∈ lt, TwP (w2.alloc (.cells #[.slice (some ⟨G, 0, none⟩) np ga, .slice (some ⟨H, 0, none⟩) ne gb, .bool false] 39)) W0.heap.size z := fun z hz => (hTT z hz).below ba
  have hsz2 := b2.size
  obtain ⟨q, hq⟩ : ∃ q, q = w2.heap.size := ⟨_, rfl⟩
  obtain ⟨W2, hW2⟩ : ∃ W2, W2 = w2.alloc (.cells #[.slice (some ⟨G, 0, none⟩) np ga, .slice (some ⟨H, 0, none⟩) ne gb, .bool false] 39) := ⟨_, rfl⟩
  rw [← hW2] at S2 V14 oG2 oH2 b2a hT2
  rw [← hq] at V14 hsz2
  rw [← hW2, ← hq]
  have hllt : lt.length = np := by have := congrArg List.length HMM.out; rw [List.length_map, List.length_map] at this; rw [this, HNP.out]
  have hltc : ∀ z ∈ lt, z.p.code.length ≤ 300 := of_ps HMM.out (Q := fun p => p.code.length ≤ 300) H3C.out
  have hltr : ∀ z ∈ lt, z.p.inR := of_ps HMM.out (Q := fun p => p.inR) (fun z hz => (HC0.out.ip z hz).i)
  have hpg := ppage_any pa x lt es (some ⟨G, 0, none⟩) (some ⟨H, 0, none⟩) ga gb W2 S2.lp (by have := Row.of_owns oG2; rw [prcsCells_append] at this; exact Row.fore this) (fun z hz => (hT2 z hz).ok (hltc z hz) (hltr z hz)) (by have := Row.of_owns oH2; rw [entsCells_append] at this; exact Row.fore this) HC0.out.ie (by have := H3P.out; have := HNP.out; omega) (by have := H3P.out; omega) (by have := HBX.out.1; omega) (by have := HBX.out.2.1; omega) (by have := HBX.out.2.2.1; omega) (by have := HBX.out.2.2.2.1; omega) (by have := HBX.out.2.2.2.2; omega)
  rw [HMM.out, ← HQ2.out, hllt, ← HNE.out] at hpg
  have HPG := Lib.hid hpg
  have u0 := V14.cell 0; have u1 := V14.cell 1
  simp only [List.getElem?_toArray, List.getElem?_cons_zero, List.getElem?_cons_succ] at u0 u1
  have HLT := Lib.hid hltc
  clear hpg hW2 hq ba b2 owG owH hTT k0 k1 k2 k3 k4 k5 k6 k7 t0 t1 t2 S0 hltr hltc
  go_upto_region 7 with (go_at_call 15; refine HPG.out.mono ?_; rintro e w3 ⟨A3, n3, c3, hn3, rfl, o3, L3, K3⟩; have HN3 := Lib.hid hn3; clear hn3)
  have hn3 : n3 = ys.length := HN3.out
  subst hn3
  have hW0w : w.heap.size ≤ W0.heap.size := by omega
  have hpa0 : pa < W0.heap.size := by omega
  have S3 := S2.step hp L3 K3
  have V143 := V14.keep K3 V14.lt (by omega)
  have oG3 := owns_keep oG2 K3 (Nat.le_refl _) (fun k hk e => by have := (oG2.lt k hk).1; omega)
  have oH3 := owns_keep oH2 K3 (Nat.le_refl _) (fun k hk e => by have := (oH2.lt k hk).1; omega)
  have hT3 : ∀ z ∈ lt, TwP w3 W0.heap.size z := fun z hz => by
   have h := hT2 z hz
   unfold TwP at h ⊢
   exact owns_keep h K3 (Nat.le_refl _) (fun k hk e => by have := (h.lt k hk).1; omega)
  have b03 : Below W0.heap.size W0 w3 ∨ True := .inr trivial
  have KW3 : Keep W0.heap.size (· = pa) W0 w3 := (Keep.of_below b2a _).step K3 b2a.size (fun _ _ f => f)
  have hCk : ∀ V, Keep W0.heap.size (· = pa) W0 V → Row V P (prcsCells ps) ∧ Row V F (entsCells es) ∧ ∀ z ∈ ps, z.came V := CKE.out
  obtain ⟨k30, k31, k32, k33, k34, k35, k36, k37⟩ := VLoc.cells S3.v4
  have t30 := S3.v5.cell 0; have t31 := S3.v5.cell 1
  simp only [PieceC.cells, List.getElem?_toArray, List.getElem?_cons_zero, List.getElem?_cons_succ] at t30 t31
  rw [← HNP.out] at t30
  rw [← HNE.out] at t31
  have hrp := r14page_any y ps es P F cp ce w3 (hCk w3 KW3).1 (fun z hz => cameOk ((hCk w3 KW3).2.2 z hz) (H3C.out z hz)) (hCk w3 KW3).2.1 HC0.out.ie (by have := H3P.out; omega) (by have := H3P.out; omega) (by have := HBY.out.1; omega) (by have := HBY.out.2.1; omega) (by have := HBY.out.2.2.1; omega) (by have := HBY.out.2.2.2.1; omega) (by have := HBY.out.2.2.2.2; omega)
  rw [← HR2.out, ← HNP.out, ← HNE.out] at hrp
  have HRP : Hid (Calls Tryz.prog 19 #[.agg #[.int .i64 y.number, .int .i64 y.mark, .int .i64 y.frames, .int .i64 y.procs, .int .i64 y.entries, .string y.name, .string y.key, .bool y.live], .slice P np cp, .slice F ne ce] w3 fun e w' => ∃ A c, e = .returned (.tuple #[.slice A ys.length c, .agg #[.int .i64 y'.number, .int .i64 y'.mark, .int .i64 y'.frames, .int .i64 y'.procs, .int .i64 y'.entries, .string y'.name, .string y'.key, .bool y'.live], .int .i64 E]) ∧ w'.ownsRow w3.heap.size 5 1 (.slice A ys.length c) ys.length (cellsB ys) ∧ Below w3.heap.size w3 w') := Lib.hid hrp
  clear hrp b03 S2 V14 oG2 oH2 hT2 L3 K3 u0 u1 HPG
  go_upto_region 8 with (go_at_call 19; refine HRP.out.mono ?_; rintro e w4 ⟨A4, c4, rfl, o4, b4⟩)
  have ba := (Below.refl w4.heap.size w4).alloc (Nat.le_refl _) (.cells y'.val 29)
  have b4a := below_then b4 ba b4.size
  have V18 : VLoc (w4.alloc (.cells y'.val 29)) w4.heap.size y' := Loc.new w4 _ _
  have S4 := S3.below b4a
  have V144 := V143.below b4a V143.lt
  have oG4 := owns_mono' oG3 b4a
  have oH4 := owns_mono' oH3 b4a
  have hT4 : ∀ z ∈ lt, TwP (w4.alloc (.cells y'.val 29)) W0.heap.size z := fun z hz => (hT3 z hz).below b4a
  have o34 := owns_mono' o3 b4a
  have o44 := owns_mono' o4 ba
  have KW4 := KW3.step (Keep.of_below b4a (fun _ => False)) KW3.size (fun _ _ f => f.elim)
  have hsz23 := KW3.size
  have hsz34 := b4.size
  obtain ⟨q8, hq8⟩ : ∃ q8, q8 = w4.heap.size := ⟨_, rfl⟩
  obtain ⟨W4, hW4⟩ : ∃ W4, W4 = w4.alloc (.cells y'.val 29) := ⟨_, rfl⟩
  rw [← hW4] at V18 S4 V144 oG4 oH4 hT4 o34 o44 KW4
  rw [← hq8] at V18
  unfold PW.val at hW4
  rw [← hW4, ← hq8]
  have hsm := same_any A3 A4 ys.length ys.length c3 c4 ys ys W4 (Row.of_owns o34) (Row.of_owns o44) rfl rfl (by omega) (by omega)
  rw [decide_eq_true rfl] at hsm
  have HSM := Lib.hid hsm
  have hst : ∀ V, Below W4.heap.size W4 V → Calls Tryz.prog 20 #[.agg #[.slice (some ⟨G, 0, none⟩) np ga, .slice (some ⟨H, 0, none⟩) ne gb, .bool false], .agg #[.slice P np cp, .slice F ne ce, .bool false]] V fun e w' => e = .returned (.bool true) ∧ Below V.heap.size V w' := fun V hV => by
   have KV := KW4.step (Keep.of_below hV (fun _ => False)) KW4.size (fun _ _ f => f.elim)
   have h := pstands_any ps lt es false P F cp ce G H ga gb W0.heap.size V (hCk V KV).1 (hCk V KV).2.2 (hCk V KV).2.1 H3P.out.1 H3P.out.2 H3C.out HMM.out (by rw [← HNP.out]; exact owns_mono' oG4 hV) (fun z hz => (hT4 z hz).below hV) (by rw [← HNE.out]; exact owns_mono' oH4 hV)
   rw [← HNP.out, ← HNE.out] at h
   exact h
  have hsp : ∀ V, Below W4.heap.size W4 V → Calls Tryz.prog 21 #[.agg #[.slice (some ⟨G, 0, none⟩) np ga, .slice (some ⟨H, 0, none⟩) ne gb, .bool false]] V fun e w' => e = .returned (.tuple #[]) ∧ Below W0.heap.size V w' ∧ (∀ q c t, t ≠ 109 → t ≠ 54 → t ≠ 62 → Loc V q c t → Loc w' q c t) := fun V hV =>
   pspoil_any np ne lt es false G H ga gb W0.heap.size V hllt.symm HNE.out (by have := H3P.out; have := HNP.out; omega) (by have := H3P.out; have := HNE.out; omega) HLT.out (by have := KW4.size; have := hV.size; omega) (owns_mono' oG4 hV) (fun z hz => (hT4 z hz).below hV) (owns_mono' oH4 hV)
  have HST := Lib.hid hst
  have HSPL := Lib.hid hsp
  have u0 := V144.cell 0; have u1 := V144.cell 1; have u2 := V144.cell 2
  have t40 := S4.v5.cell 0; have t41 := S4.v5.cell 1; have t42 := S4.v5.cell 2
  simp only [PieceC.cells, List.getElem?_toArray, List.getElem?_cons_zero, List.getElem?_cons_succ] at u0 u1 u2 t40 t41 t42
  rw [← HNP.out] at t40
  rw [← HNE.out] at t41
  have HO3 := Lib.hid o34
  clear hsm hst hsp hW4 hq8 ba b4 b4a o3 o4 o34 o44 S3 V143 oG3 oH3 hT3 KW3 oG4 oH4 hT4 k30 k31 k32 k33 k34 k35 k36 k37 t30 t31 HRP hCk
  go_upto_region 10 with (first | (go_at_call 14; refine HSM.out.mono ?_; rintro e w5 ⟨rfl, b5⟩; have S5 := S4.below b5; have V145 := V144.below b5 V144.lt; have y0 := V145.cell 0; have y1 := V145.cell 1; have y2 := V145.cell 2; have t50 := S5.v5.cell 0; have t51 := S5.v5.cell 1; have t52 := S5.v5.cell 2; simp only [PieceC.cells, List.getElem?_toArray, List.getElem?_cons_zero, List.getElem?_cons_succ] at y0 y1 y2 t50 t51 t52; rw [← HNP.out] at t50; rw [← HNE.out] at t51) | (go_at_call 20; refine (HST.out _ b5).mono ?_; rintro e w6 ⟨rfl, b6⟩; have b56 := below_then b5 b6 b5.size; have S6 := S5.below b6; have V146 := V145.below b6 V145.lt; have y60 := V146.cell 0; have y61 := V146.cell 1; have y62 := V146.cell 2; simp only [List.getElem?_toArray, List.getElem?_cons_zero, List.getElem?_cons_succ] at y60 y61 y62) | (go_at_call 21; refine (HSPL.out _ b56).mono ?_; rintro e w7 ⟨rfl, b7, hloc⟩))
  have hw46 := b56.size
  have hb2s := b2a.size
  have V187 : VLoc w7 q8 y' := hloc _ _ _ (by decide) (by decide) (by decide) (Loc.below V18 b56 V18.lt)
  have V77 : VLoc w7 (w.heap.size + 2) PW.zero := hloc _ _ _ (by decide) (by decide) (by decide) S6.v7
  have L7 : Loc w7 pa (x'.cells nilS) 56 := hloc _ _ _ (by decide) (by decide) (by decide) S6.lp
  have o7 : w7.ownsRow w.heap.size 5 1 (.slice A3 ys.length c3) ys.length (cellsB ys) := owns_type (owns_mono (owns_mono' HO3.out b56) (by omega)) (fun b c hl => hloc b c _ (by decide) (by decide) (by decide) hl)
  have K7 : Keep w.heap.size (· = pa) w w7 := S6.k.step (Keep.of_below b7 (fun _ => False)) hW0w (fun _ _ f => f.elim)
  obtain ⟨k10, k11, k12, k13, k14, k15, k16, k17⟩ := V187.cells
  obtain ⟨m0, m1, m2, m3, m4, m5, m6, m7⟩ := V77.cells
  obtain ⟨f0, f1, f2, f3, f4, f5, f6, f7⟩ := V77.free8
  have Vf : VLoc (putV w7 (w.heap.size + 2) y').drew (w.heap.size + 2) y' := Loc.drew (putV_loc V77 y')
  have hres := HFIN.out (putV w7 (w.heap.size + 2) y').drew A3 c3 (owns_mono' (putV_own o7 (owns_ne o7 V77 (by decide)) y') (below_drewN (Below.refl _ _) 1)) (Loc.drew (putV_other L7 (by omega) y')) (putV_keep K7 (by omega) y').drew
  have HRES := Lib.hid hres
  have HFN := Lib.hid Vf.cells
  clear hres Vf o7 K7 L7 V187 V77 hloc b7 b56 b5 b6 S4 S5 S6 V144 V145 V146 V18 y0 y1 y2 y60 y61 y62 t50 t51 t52 t40 t41 t42 u0 u1 u2
  go_region
  all_goals
   go_wp2
   have hres := HRES.out
   obtain ⟨e0, e1, e2, e3, e4, e5, e6, e7⟩ := HFN.out
   unfold putV at hres e0 e1 e2 e3 e4 e5 e6 e7
   exact bodyPost_ret (v := .tuple #[.slice A3 ys.length c3, .agg y'.val, .bool true]) (by simp [results, Tryz.results10, go_sem, e0, e1, e2, e3, e4, e5, e6, e7, PW.val]) rfl hres
end Go.Proofs.YtnieminnnkbneaaGreat
