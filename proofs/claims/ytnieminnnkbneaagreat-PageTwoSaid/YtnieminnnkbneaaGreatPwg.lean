/- Walks of page.Writer: Page. -/
import Derived.Test.YtnieminnnkbneaaGreatPwe
import Derived.Test.YtnieminnnkbneaaGreatPgf
namespace Go.Proofs.YtnieminnnkbneaaGreat
open Go.RowKit

abbrev nilS : Value := .slice none 0 0
/-- What Page and End answer. -/
def PgPost (w : World) (p : Nat) (q : (Bs × PW) × Int) (e : Ending) (w' : World) : Prop :=
  ∃ A n c, n = q.1.1.length ∧ e = .returned (.tuple #[.slice A n c, .int .i64 q.2]) ∧ w'.ownsRow w.heap.size 5 1 (.slice A n c) n (cellsB q.1.1) ∧ Loc w' p (q.1.2.cells nilS) 56 ∧ Keep w.heap.size (· = p) w w'
theorem PgPost.no {w w' : World} {p : Nat} {q : (Bs × PW) × Int} {x : PW} {E : Int} (h : q = (([], x), E)) (L : Loc w p (x.cells nilS) 56) (hb : Below w.heap.size w w') : PgPost w p q (.returned (.tuple #[.slice none 0 0, .int .i64 E])) w' := by
  subst h
  exact ⟨none, 0, 0, rfl, rfl, World.ownsRow_nil _ _ _ _, L.below hb L.lt, Keep.of_below hb _⟩

/-- A procedure that came: its code stands somewhere. -/
structure PrcC.ok (W : World) (y : PrcC) : Prop where
  r : Row W y.A (codeCells y.p.code)
  l : y.p.code.length ≤ 140737488355328
  i : y.p.inR
theorem PrcC.ok.below {W V : World} {y : PrcC} (h : y.ok W) (hb : Below W.heap.size W V) : y.ok V := ⟨h.r.of_below hb (Nat.le_refl _), h.l, h.i⟩
theorem prcsCells_length (l : List PrcC) : (prcsCells l).length = l.length * 3 := by
  induction l with
  | nil => rfl
  | cons x l ih => simp [prcsCells, PrcC.cells, procCells] at ih ⊢; omega
theorem prcsCells_get (l : List PrcC) (k : Nat) (h : k < l.length) (j : Nat) (hj : j < 3) : (prcsCells l)[k * 3 + j]? = (l[k]).cells[j]? := by
  induction l generalizing k with
  | nil => simp at h
  | cons x l ih =>
    have hx : prcsCells (x :: l) = x.cells.toList ++ prcsCells l := rfl
    have hx4 : x.cells.toList.length = 3 := rfl
    rw [hx]
    cases k with
    | zero =>
      rw [List.getElem?_append_left (by rw [hx4]; omega)]
      simp
    | succ k =>
      rw [List.getElem?_append_right (by rw [hx4]; omega), hx4, show (k + 1) * 3 + j - 3 = k * 3 + j by omega, ih k (by simpa using h)]
      rfl
theorem Row.prcs {w : World} {A : Option Addr} {l : List PrcC} (h : Row w A (prcsCells l)) (hp : 0 < l.length) : ∃ b off, A = some ⟨b, off, none⟩ ∧ b < w.heap.size ∧ ∀ j (hj : j < l.length), ∀ i, i < 3 → w.cell? ⟨b, off + j * 3 + i, none⟩ = (l[j]).cells[i]? := by
  obtain ⟨b, off, hA, hlt, hc⟩ := h.at (by rw [prcsCells_length]; omega)
  refine ⟨b, off, hA, hlt, fun j hj i hi => ?_⟩
  rw [Nat.add_assoc, hc _ (by rw [prcsCells_length]; omega), prcsCells_get l j hj i hi]

theorem pwProcs_step {x : PW} {ys : Bs} {l : List Prc} {k : Nat} (h : k < l.length) : pwProcs x ys (l.drop k) = if pwProcE x l[k] ≠ 0 then ((ys, x), pwProcE x l[k]) else pwProcs (pwProc x l[k]) (ys ++ procFrame x l[k]) (l.drop (k + 1)) := by
  rw [List.drop_eq_getElem_cons h, pwProcs]
theorem pwEnts_step {x : PW} {l : List Ent} {k : Nat} (h : k < l.length) : pwEnts x (l.drop k) = if pwEntE x l[k] ≠ 0 then (x, pwEntE x l[k]) else pwEnts (pwEnt x l[k]) (l.drop (k + 1)) := by
  rw [List.drop_eq_getElem_cons h, pwEnts]

/-- What follows the count of things. -/
def pwTail (x : PW) (es : List Ent) (q : (Bs × PW) × Int) : (Bs × PW) × Int :=
  if q.2 ≠ 0 then (([], x), q.2) else
  if (pwEnts q.1.2 es).2 ≠ 0 then (([], x), (pwEnts q.1.2 es).2) else
  if es.length = 0 then ((q.1.1, (pwEnts q.1.2 es).1), 0) else ((q.1.1 ++ entsFrame (pwEnts q.1.2 es).1 es, { (pwEnts q.1.2 es).1 with frames := (pwEnts q.1.2 es).1.frames + 1 }), 0)
theorem pwPage_eq {x : PW} {ps : List Prc} {es : List Ent} (hl : x.live = true) (hn : ¬ (ps.length + es.length = 0 ∨ 128 < ps.length + es.length)) : pwPage x ps es = pwTail x es (pwProcs (pwHead x).2 (pwHead x).1 ps) := by
  unfold pwPage pwTail
  rw [if_neg (by simp [hl]), if_neg hn]
  simp only [List.length_eq_zero_iff]

theorem pwHead_b (x : PW) : (pwHead x).2.frames ≤ x.frames + 1 ∧ (pwHead x).2.procs = x.procs ∧ (pwHead x).2.entries = x.entries ∧ (pwHead x).1.length ≤ 100 ∧ (pwHead x).2.number = x.number ∧ (pwHead x).2.mark = x.mark ∧ (pwHead x).2.live = x.live := by
  unfold pwHead
  by_cases h : x.frames = 0
  · rw [if_pos h]
    refine ⟨by show 1 ≤ _; omega, rfl, rfl, ?_, rfl, rfl, rfl⟩
    have e1 := encNumber_le (x.number : Int)
    have e2 := encNumber_le (x.mark : Int)
    have e3 := bodyF_le 1 0 (encNumber x.number ++ encNumber x.mark)
    rw [List.length_append] at e3
    show (headB _ ++ _).length ≤ 100
    rw [List.length_append, headB_length]
    omega
  · rw [if_neg h]
    exact ⟨Nat.le_succ _, rfl, rfl, Nat.zero_le _, rfl, rfl, rfl⟩
theorem procFrame_le {x : PW} {p : Prc} (h : pwProcE x p = 0) : (procFrame x p).length ≤ 27000 := by
  have e1 := procBytes_le (pwProcE_zero h).1
  have e2 := encText_le (procBytes p)
  have e3 := bodyF_le 2 x.frames (encText (procBytes p))
  unfold procFrame frameB
  rw [List.length_append, headB_length]
  omega

theorem WSt.bel {w0 w W : World} {p : Nat} {x : PW} {ys : Bs} (h : WSt w W p x ys) (hb : Below w0.heap.size w0 w) (hp : w0.heap.size ≤ p) : Below w0.heap.size w0 W := by
  obtain ⟨A, n, c, hn, L, o, K⟩ := h
  exact below_keep hb K hb.size (fun k hk => by omega)

theorem WSt.loc {w W : World} {p b : Nat} {x : PW} {ys : Bs} {c : Array Value} {t : TypeId} (h : WSt w W p x ys) (hl : Loc w b c t) (hne : b ≠ p) : Loc W b c t := by
  obtain ⟨A, n, c, hn, L, o, K⟩ := h
  exact hl.keep K hl.lt hne

/-- A Writer laid cell by cell. -/
def putP (w : World) (p : Nat) (x : PW) (out : Value) : World :=
  ((((((((w.setCell ⟨p, 0, none⟩ (.bool x.live)).setCell ⟨p, 1, none⟩ (.int .i64 x.number)).setCell ⟨p, 2, none⟩ (.int .i64 x.mark)).setCell ⟨p, 3, none⟩ (.int .i64 x.frames)).setCell ⟨p, 4, none⟩ (.int .i64 x.procs)).setCell ⟨p, 5, none⟩ (.int .i64 x.entries)).setCell ⟨p, 6, none⟩ (.string x.name)).setCell ⟨p, 7, none⟩ (.string x.key)).setCell ⟨p, 8, none⟩ out
theorem put9_loc {w : World} {p : Nat} {v0 v1 v2 v3 v4 v5 v6 v7 v8 : Value} {t : TypeId} (h : Loc w p #[v0, v1, v2, v3, v4, v5, v6, v7, v8] t) (u0 u1 u2 u3 u4 u5 u6 u7 u8 : Value) :
    Loc (((((((((w.setCell ⟨p, 0, none⟩ u0).setCell ⟨p, 1, none⟩ u1).setCell ⟨p, 2, none⟩ u2).setCell ⟨p, 3, none⟩ u3).setCell ⟨p, 4, none⟩ u4).setCell ⟨p, 5, none⟩ u5).setCell ⟨p, 6, none⟩ u6).setCell ⟨p, 7, none⟩ u7).setCell ⟨p, 8, none⟩ u8) p #[u0, u1, u2, u3, u4, u5, u6, u7, u8] t := by
  have l0 := h.set 0 u0
  simp only [List.setIfInBounds_toArray, List.set_cons_zero] at l0
  have l1 := l0.set 1 u1
  simp only [List.setIfInBounds_toArray, List.set_cons_zero, List.set_cons_succ] at l1
  have l2 := l1.set 2 u2
  simp only [List.setIfInBounds_toArray, List.set_cons_zero, List.set_cons_succ] at l2
  have l3 := l2.set 3 u3
  simp only [List.setIfInBounds_toArray, List.set_cons_zero, List.set_cons_succ] at l3
  have l4 := l3.set 4 u4
  simp only [List.setIfInBounds_toArray, List.set_cons_zero, List.set_cons_succ] at l4
  have l5 := l4.set 5 u5
  simp only [List.setIfInBounds_toArray, List.set_cons_zero, List.set_cons_succ] at l5
  have l6 := l5.set 6 u6
  simp only [List.setIfInBounds_toArray, List.set_cons_zero, List.set_cons_succ] at l6
  have l7 := l6.set 7 u7
  simp only [List.setIfInBounds_toArray, List.set_cons_zero, List.set_cons_succ] at l7
  have l8 := l7.set 8 u8
  simp only [List.setIfInBounds_toArray, List.set_cons_zero, List.set_cons_succ] at l8
  exact l8
theorem putP_loc {w : World} {p : Nat} {x x0 : PW} {out o0 : Value} (h : Loc w p (x0.cells o0) 56) : Loc (putP w p x out) p (x.cells out) 56 :=
  put9_loc h _ _ _ _ _ _ _ _ _
theorem putP_keep {a w : World} {p : Nat} {x : PW} {out : Value} {B : Nat} (h : Keep B (· = p) a w) : Keep B (· = p) a (putP w p x out) :=
  ((((((((h.setCell (p := ⟨p, 0, none⟩) (.inr rfl) _).setCell (p := ⟨p, 1, none⟩) (.inr rfl) _).setCell (p := ⟨p, 2, none⟩) (.inr rfl) _).setCell (p := ⟨p, 3, none⟩) (.inr rfl) _).setCell (p := ⟨p, 4, none⟩) (.inr rfl) _).setCell (p := ⟨p, 5, none⟩) (.inr rfl) _).setCell (p := ⟨p, 6, none⟩) (.inr rfl) _).setCell (p := ⟨p, 7, none⟩) (.inr rfl) _).setCell (p := ⟨p, 8, none⟩) (.inr rfl) _
theorem putP_owns {W : World} {base p size n : Nat} {e : TypeId} {v : Value} {xs : List Value} {x : PW} {out : Value} (h : W.ownsRow base e size v n xs) (hp : v.ownBlock ≠ some p) : (putP W p x out).ownsRow base e size v n xs :=
  owns_setCell (a := ⟨p, 8, none⟩) (owns_setCell (a := ⟨p, 7, none⟩) (owns_setCell (a := ⟨p, 6, none⟩) (owns_setCell (a := ⟨p, 5, none⟩) (owns_setCell (a := ⟨p, 4, none⟩) (owns_setCell (a := ⟨p, 3, none⟩) (owns_setCell (a := ⟨p, 2, none⟩) (owns_setCell (a := ⟨p, 1, none⟩) (owns_setCell (a := ⟨p, 0, none⟩) h hp _) hp _) hp _) hp _) hp _) hp _) hp _) hp _) hp _
theorem PgPost.fin {w wt : World} {p xb nt ct B : Nat} {At : Option Addr} {x0 xt : PW} {ys : Bs} {Q : (Bs × PW) × Int} (hQ : Q = ((ys, xt), 0)) (hn : nt = ys.length) (Lt : Loc wt xb (xt.cells (.slice At nt ct)) 56) (Lp : Loc wt p (x0.cells nilS) 56)
    (ot : wt.ownsRow B 5 1 (.slice At nt ct) nt (cellsB ys)) (hB : w.heap.size ≤ B) (hb : Below w.heap.size w wt) (hxb : w.heap.size ≤ xb) (hpx : p ≠ xb) :
    PgPost w p Q (.returned (.tuple #[.slice At nt ct, .int .i64 0])) (putP (wt.setCell ⟨xb, 8, none⟩ nilS) p xt nilS) := by
  subst hQ
  refine ⟨At, nt, ct, hn, rfl, ?_, ?_, ?_⟩
  · exact putP_owns (owns_setCell (a := ⟨xb, 8, none⟩) (owns_mono ot hB) (owns_ne ot Lt (by decide)) _) (owns_ne ot Lp (by decide))
  · exact putP_loc (Lp.other (a := ⟨xb, 8, none⟩) hpx _)
  · exact putP_keep ((Keep.of_below hb (· = p)).setCell (p := ⟨xb, 8, none⟩) (.inl hxb) _)

set_option maxRecDepth 100000 in
set_option maxHeartbeats 8000000 in
theorem ppage_any (p : Nat) (x : PW) (pl : List PrcC) (es : List Ent) (A B : Option Addr) (ca cb : Nat) (w : World) (L : Loc w p (x.cells nilS) 56) (hrp : Row w A (prcsCells pl)) (hpo : ∀ y ∈ pl, y.ok w) (hre : Row w B (entsCells es)) (heo : ∀ y ∈ es, y.inR)
    (hpl : pl.length ≤ 140737488355328) (hel : es.length ≤ 140737488355328) (hn1 : x.number ≤ 281474976710655) (hn2 : x.mark ≤ 281474976710655) (hf : x.frames ≤ 281474976710000) (hpr : x.procs ≤ 281474976710000) (hen : x.entries ≤ 281474976710000) :
    Calls Tryz.prog 15 #[.pointer (some ⟨p, 0, none⟩), .slice A pl.length ca, .slice B es.length cb] w (PgPost w p (pwPage x (pl.map (·.p)) es)) := by
  have hp := L.lt
  obtain ⟨np, hnp⟩ : ∃ np, np = pl.length := ⟨_, rfl⟩
  obtain ⟨ne, hne⟩ : ∃ ne, ne = es.length := ⟨_, rfl⟩
  rw [← hnp] at hpl ⊢
  rw [← hne] at hel ⊢
  have HRP := Lib.hid hrp
  have HPO := Lib.hid hpo
  have HRE := Lib.hid hre
  have HEO := Lib.hid heo
  have HNP := Lib.hid hnp
  have HNE := Lib.hid hne
  have HL := Lib.hid L
  obtain ⟨Q, hQ⟩ : ∃ Q, Q = pwPage x (pl.map (·.p)) es := ⟨_, rfl⟩
  rw [← hQ]
  have HQ := Lib.hid hQ
  have L1 := L.alloc (.cells #[.slice B ne cb] 37)
  have b1 := (Below.refl w.heap.size w).alloc (Nat.le_refl _) (.cells #[.slice B ne cb] 37)
  clear hrp hpo hre heo hnp hne hQ L
  cases hlv : x.live with
  | false =>
    have HX : Hid (Q = (([], x), 25)) := Lib.hid (by rw [HQ.out]; unfold pwPage; rw [if_pos hlv])
    have k0 := L1.cell 0
    simp only [PW.cells, List.getElem?_toArray, List.getElem?_cons_zero, hlv] at k0
    clear hlv HQ
    go_enter Tryz.func15, Tryz.ntmps15
    go_wp2
    go_ret2
    exact .no HX.out HL.out b1
  | true =>
    have k0 := L1.cell 0
    simp only [PW.cells, List.getElem?_toArray, List.getElem?_cons_zero, hlv] at k0
    by_cases hcnt : np + ne = 0 ∨ 128 < np + ne
    · have HX : Hid (Q = (([], x), 1)) := Lib.hid (by rw [HQ.out]; unfold pwPage; rw [if_neg (by simp [hlv]), if_pos (by rw [List.length_map, ← HNP.out, ← HNE.out]; exact hcnt)])
      clear hlv HQ
      rcases hcnt with hc | hc
      · obtain rfl : np = 0 := by omega
        obtain rfl : ne = 0 := by omega
        go_enter Tryz.func15, Tryz.ntmps15
        go_wp2
        go_ret2
        exact .no HX.out HL.out b1
      · have t1 : ((np : Int) + (ne : Int) == 0) = false := by simp; omega
        have t2 : (128 : Int) < (np : Int) + (ne : Int) := by omega
        go_enter Tryz.func15, Tryz.ntmps15
        go_wp2
        go_ret2
        exact .no HX.out HL.out b1
    · have hq := pwPage_eq (x := x) (ps := pl.map (·.p)) (es := es) hlv (by rw [List.length_map, ← HNP.out, ← HNE.out]; exact hcnt)
      rw [← HQ.out] at hq
      have HQ2 := Lib.hid hq
      have t1 : ((np : Int) + (ne : Int) == 0) = false := by simp; omega
      have t2 : ¬ (128 : Int) < (np : Int) + (ne : Int) := by omega
      have hnn : np + ne ≤ 128 := by omega
      have k1 := L1.cell 1; have k2 := L1.cell 2; have k3 := L1.cell 3; have k4 := L1.cell 4; have k5 := L1.cell 5; have k6 := L1.cell 6; have k7 := L1.cell 7; have k8 := L1.cell 8
      simp only [PW.cells, List.getElem?_toArray, List.getElem?_cons_zero, List.getElem?_cons_succ] at k1 k2 k3 k4 k5 k6 k7 k8
      clear hq HQ hcnt
      go_enter Tryz.func15, Tryz.ntmps15
      go_upto_region 9 with (fail)
      have hc : x.cells nilS = #[.bool true, .int .i64 x.number, .int .i64 x.mark, .int .i64 x.frames, .int .i64 x.procs, .int .i64 x.entries, .string x.name, .string x.key, nilS] := by simp [PW.cells, hlv]
      have L2 := Loc.new (w.alloc (.cells #[.slice B ne cb] 37)) #[.bool true, .int .i64 x.number, .int .i64 x.mark, .int .i64 x.frames, .int .i64 x.procs, .int .i64 x.entries, .string x.name, .string x.key, nilS] 56
      have C2 := ((Loc.new w #[.slice B ne cb] 37).alloc (.cells #[.bool true, .int .i64 x.number, .int .i64 x.mark, .int .i64 x.frames, .int .i64 x.procs, .int .i64 x.entries, .string x.name, .string x.key, nilS] 56))
      have b2 := b1.alloc b1.size (.cells #[.bool true, .int .i64 x.number, .int .i64 x.mark, .int .i64 x.frames, .int .i64 x.procs, .int .i64 x.entries, .string x.name, .string x.key, nilS] 56)
      rw [World.size_alloc] at L2
      obtain ⟨W2, hW2⟩ : ∃ W2, W2 = (w.alloc (.cells #[.slice B ne cb] 37)).alloc (.cells #[.bool true, .int .i64 x.number, .int .i64 x.mark, .int .i64 x.frames, .int .i64 x.procs, .int .i64 x.entries, .string x.name, .string x.key, nilS] 56) := ⟨_, rfl⟩
      have hs2 : W2.heap.size = w.heap.size + 2 := by rw [hW2]; simp
      rw [← hW2] at L2 C2 b2
      rw [← hW2]
      rw [← hc] at L2
      have HB2 := Lib.hid b2
      have HC2 := Lib.hid C2
      have HLP : Hid (Loc W2 p (x.cells nilS) 56) := Lib.hid (HL.out.below b2 hp)
      have HS2 := Lib.hid hs2
      have HH := Lib.hid (phead_any (w.heap.size + 1) x nilS W2 L2 hn1 hn2)
      have HPB := Lib.hid (pwHead_b x)
      have HLV := Lib.hid hlv
      obtain ⟨xh, hxh⟩ : ∃ xh, xh = (pwHead x).2 := ⟨_, rfl⟩
      obtain ⟨yh, hyh⟩ : ∃ yh, yh = (pwHead x).1 := ⟨_, rfl⟩
      rw [← hxh, ← hyh] at HH HPB HQ2
      clear hW2 hc L2 C2 b2 k0 k1 k2 k3 k4 k5 k6 k7 k8 L1 b1 hlv hxh hyh t1 t2
      go_wp2_with (go_at_call 34; refine HH.out.mono ?_; rintro e w3 ⟨rfl, S3⟩)
      go_loopw [43] (fun i wr => ∃ (k : Nat) (x' : PW) (ys : Bs), k ≤ np ∧ i = .int .i64 k ∧ WSt W2 wr (w.heap.size + 1) x' ys ∧ Hid (x'.frames ≤ x.frames + 1 + k ∧ x'.procs ≤ x.procs + k ∧ x'.entries = x.entries ∧ ys.length ≤ 100 + 27000 * k ∧ x'.number = x.number ∧ x'.mark = x.mark) ∧ Hid (pwProcs xh yh (pl.map (·.p)) = pwProcs x' ys ((pl.map (·.p)).drop k))) (fun i _ => np - (intOf i).toNat)
      case atStart => exact ⟨0, xh, yh, Nat.zero_le _, rfl, S3, Lib.hid (by have := HPB.out; omega), Lib.hid (by rw [List.drop_zero])⟩
      case round =>
        obtain ⟨wi, rfl⟩ : ∃ wi, wi = wr := ⟨_, rfl⟩
        obtain ⟨k, x', ys, hk, rfl, SI, HBI, HPI⟩ := hrel
        clear S3
        have bI := SI.bel HB2.out (by omega)
        by_cases hkn : k < np
        · have hkn' : (k : Int) < (np : Int) := by omega
          have hkl : k < pl.length := by rw [← HNP.out]; exact hkn
          have hst := HPI.out
          rw [pwProcs_step (by rw [List.length_map]; exact hkl), List.getElem_map] at hst
          obtain ⟨b, off, rfl, hbl, hcc⟩ := (HRP.out.of_below bI (Nat.le_refl _)).prcs (by omega)
          have hcx := hcc k hkl
          have hyo := (HPO.out pl[k] (List.getElem_mem hkl)).below bI
          generalize pl[k] = Y at *
          obtain ⟨⟨yn, ya, yc⟩, YA, ycp⟩ := Y
          have x0 := hcx 0 (by decide); have x1 := hcx 1 (by decide); have x2 := hcx 2 (by decide)
          simp only [PrcC.cells, procCells, List.getElem?_toArray, List.getElem?_cons_zero, List.getElem?_cons_succ, Nat.add_zero] at x0 x1 x2
          have SA := SI.below ((Below.refl wi.heap.size wi).alloc (Nat.le_refl _) (.cells #[.string yn, .int .i64 ya, .slice YA yc.length ycp] 54))
          have hya := hyo.below ((Below.refl wi.heap.size wi).alloc (Nat.le_refl _) (.cells #[.string yn, .int .i64 ya, .slice YA yc.length ycp] 54))
          have hbnd := HBI.out
          have hcall := pproc_any (w.heap.size + 1) x' ys ⟨⟨yn, ya, yc⟩, YA, ycp⟩ W2 _ SA (by omega) (by omega) (by omega) hya.r hya.l hya.i
          unfold PrcC.cells procCells at hcall
          simp only at hcall hst
          have HST := Lib.hid hst
          have HCALL := Lib.hid hcall
          clear hst hcc hcx hyo hya SA hcall hbnd
          obtain ⟨E, hE⟩ : ∃ E, E = pwProcE x' ⟨yn, ya, yc⟩ := ⟨_, rfl⟩
          have HE := Lib.hid hE
          clear hE
          by_cases hE0 : E = 0
          · have hE1 : pwProcE x' ⟨yn, ya, yc⟩ = 0 := by rw [← HE.out]; exact hE0
            have hc0 := HCALL.out.mono (fun e w' h => (by
              obtain ⟨h1, h2⟩ := h
              rw [hE1] at h1
              rw [if_pos hE1, if_pos hE1] at h2
              exact ⟨h1, h2⟩ : e = .returned (.int .i64 0) ∧ WSt W2 w' (w.heap.size + 1) (pwProc x' ⟨yn, ya, yc⟩) (ys ++ procFrame x' ⟨yn, ya, yc⟩)))
            have HC0 := Lib.hid hc0
            have hst := HST.out
            rw [if_neg (by simpa using hE1)] at hst
            have HST2 := Lib.hid hst
            have HPF := Lib.hid (procFrame_le hE1)
            clear hc0 HCALL hst HST hE1 hE0 bI
            go_wp2_with (go_at_call 35; refine HC0.out.mono ?_; rintro e w5 ⟨rfl, S5⟩)
            go_roundw
            case rel =>
              refine ⟨k + 1, _, _, by omega, by go_num, S5, Lib.hid ?_, Lib.hid ?_⟩
              · have h1 := HBI.out
                have h2 := HPF.out
                refine ⟨?_, ?_, h1.2.2.1, ?_, h1.2.2.2.2.1, h1.2.2.2.2.2⟩
                · show x'.frames + 1 ≤ _; omega
                · show x'.procs + 1 ≤ _; omega
                · rw [List.length_append]; omega
              · exact HST2.out
            case measure => simp [intOf]; omega
          · have hE1 : pwProcE x' ⟨yn, ya, yc⟩ ≠ 0 := by rw [← HE.out]; exact hE0
            have hc0 := HCALL.out.mono (fun e w' h => (by
              obtain ⟨h1, h2⟩ := h
              rw [if_neg hE1, if_neg hE1] at h2
              rw [← HE.out] at h1
              exact ⟨h1, h2⟩ : e = .returned (.int .i64 E) ∧ WSt W2 w' (w.heap.size + 1) x' ys))
            have HC0 := Lib.hid hc0
            have hst := HST.out
            rw [if_pos hE1] at hst
            have HX : Hid (Q = (([], x), E)) := Lib.hid (by
              rw [HQ2.out, hst, HE.out]
              unfold pwTail
              rw [if_pos hE1])
            have t1 : (E != 0) = true := by simpa using hE0
            clear hc0 HCALL hst HST hE1 hE0 bI
            go_wp2_with (go_at_call 35; refine HC0.out.mono ?_; rintro e w5 ⟨rfl, S5⟩)
            go_ret2
            exact .no HX.out HL.out (S5.bel HB2.out (by omega))
        · obtain rfl : k = np := by omega
          have hpp := HPI.out
          rw [List.drop_eq_nil_of_le (by rw [List.length_map, ← HNP.out]; exact Nat.le_refl _), pwProcs] at hpp
          have hq := HQ2.out
          rw [hpp] at hq
          unfold pwTail at hq
          simp only at hq
          rw [if_neg (by simp), ← HNE.out] at hq
          have HQ3 := Lib.hid hq
          have C3 := SI.loc HC2.out (by omega)
          clear hpp hq HPI HQ2
          have c0 := C3.cell 0
          simp only [List.getElem?_toArray, List.getElem?_cons_zero] at c0
          clear bI
          go_wp2
          go_loopw [55] (fun i wr => ∃ (j : Nat) (x'' : PW), j ≤ ne ∧ i = .int .i64 j ∧ WSt W2 wr (w.heap.size + 1) x'' ys ∧ Hid (x''.frames = x'.frames ∧ x''.entries ≤ x.entries + j) ∧ Hid (pwEnts x' es = pwEnts x'' (es.drop j))) (fun i _ => ne - (intOf i).toNat)
          case atStart => exact ⟨0, x', Nat.zero_le _, rfl, SI, Lib.hid (by have := HBI.out; omega), Lib.hid (by rw [List.drop_zero])⟩
          case round =>
            obtain ⟨wj, rfl⟩ : ∃ wj, wj = wr := ⟨_, rfl⟩
            obtain ⟨j, x'', hj, rfl, SJ, HBJ, HPJ⟩ := hrel
            clear SI C3 c0
            by_cases hjn : j < ne
            · have hjn' : (j : Int) < (ne : Int) := by omega
              have hjl : j < es.length := by rw [← HNE.out]; exact hjn
              have bJ := SJ.bel HB2.out (by omega)
              have hst := HPJ.out
              rw [pwEnts_step hjl] at hst
              obtain ⟨b, off, rfl, hbl, hcc⟩ := (HRE.out.of_below bJ (Nat.le_refl _)).ents (by omega)
              have hcx := hcc j hjl
              generalize es[j] = Y at *
              obtain ⟨yk, ⟨vk, vn, vt⟩⟩ := Y
              have x0 := hcx 0 (by decide); have x1 := hcx 1 (by decide); have x2 := hcx 2 (by decide); have x3 := hcx 3 (by decide)
              simp only [Ent.cells, List.getElem?_toArray, List.getElem?_cons_zero, List.getElem?_cons_succ, Nat.add_zero] at x0 x1 x2 x3
              have SA := SJ.below ((Below.refl wj.heap.size wj).alloc (Nat.le_refl _) (.cells #[.string yk, .int .i64 vk, .int .i64 vn, .string vt] 62))
              have hcall := pentry_any (w.heap.size + 1) x'' ys ⟨yk, ⟨vk, vn, vt⟩⟩ W2 _ SA (by have := HBJ.out; omega)
              unfold Ent.cells at hcall
              simp only at hcall
              have HST := Lib.hid hst
              have HCALL := Lib.hid hcall
              clear hst hcc hcx SA hcall
              obtain ⟨E, hE⟩ : ∃ E, E = pwEntE x'' ⟨yk, ⟨vk, vn, vt⟩⟩ := ⟨_, rfl⟩
              have HE := Lib.hid hE
              clear hE
              by_cases hE0 : E = 0
              · have hE1 : pwEntE x'' ⟨yk, ⟨vk, vn, vt⟩⟩ = 0 := by rw [← HE.out]; exact hE0
                have hc0 := HCALL.out.mono (fun e w' h => (by
                  obtain ⟨h1, h2⟩ := h
                  rw [hE1] at h1
                  rw [if_pos hE1] at h2
                  exact ⟨h1, h2⟩ : e = .returned (.int .i64 0) ∧ WSt W2 w' (w.heap.size + 1) (pwEnt x'' ⟨yk, ⟨vk, vn, vt⟩⟩) ys))
                have HC0 := Lib.hid hc0
                have hst := HST.out
                rw [if_neg (by simpa using hE1)] at hst
                have HST2 := Lib.hid hst
                clear hc0 HCALL hst HST hE1 hE0 bJ
                go_wp2_with (go_at_call 36; refine HC0.out.mono ?_; rintro e w5 ⟨rfl, S5⟩)
                go_roundw
                case rel =>
                  refine ⟨j + 1, _, by omega, by go_num, S5, Lib.hid ?_, HST2⟩
                  have h1 := HBJ.out
                  exact ⟨h1.1, by show x''.entries + 1 ≤ _; omega⟩
                case measure => simp [intOf]; omega
              · have hE1 : pwEntE x'' ⟨yk, ⟨vk, vn, vt⟩⟩ ≠ 0 := by rw [← HE.out]; exact hE0
                have hc0 := HCALL.out.mono (fun e w' h => (by
                  obtain ⟨h1, h2⟩ := h
                  rw [if_neg hE1] at h2
                  rw [← HE.out] at h1
                  exact ⟨h1, h2⟩ : e = .returned (.int .i64 E) ∧ WSt W2 w' (w.heap.size + 1) x'' ys))
                have HC0 := Lib.hid hc0
                have hst := HST.out
                rw [if_pos hE1, ← HE.out] at hst
                have HX : Hid (Q = (([], x), E)) := Lib.hid (by
                  rw [HQ3.out, hst]
                  rw [if_pos hE0])
                have t1 : (E != 0) = true := by simpa using hE0
                clear hc0 HCALL hst HST hE1 hE0 bJ
                go_wp2_with (go_at_call 36; refine HC0.out.mono ?_; rintro e w5 ⟨rfl, S5⟩)
                go_ret2
                exact .no HX.out HL.out (S5.bel HB2.out (by omega))
            · obtain rfl : j = ne := by omega
              have hpp := HPJ.out
              rw [List.drop_eq_nil_of_le (by rw [← HNE.out]; exact Nat.le_refl _), pwEnts] at hpp
              have HPP := Lib.hid hpp
              have hq := HQ3.out
              rw [hpp] at hq
              simp only at hq
              rw [if_neg (by simp)] at hq
              have HQ4 := Lib.hid hq
              have C3 := SJ.loc HC2.out (by omega)
              have c0 := C3.cell 0
              simp only [List.getElem?_toArray, List.getElem?_cons_zero] at c0
              clear hpp hq HPJ HQ3
              by_cases hj0 : j = 0
              · have hq := HQ4.out
                rw [if_pos hj0] at hq
                have HQ5 := Lib.hid hq
                subst hj0
                clear hq HQ4
                have LpT := SJ.loc HLP.out (by omega)
                have bT := SJ.bel HB2.out (by omega)
                obtain ⟨At, nt, ct, hnt, Lt, ot, _⟩ := SJ
                have u0 := Lt.cell 0; have y0 := LpT.cell 0; have fy0 := LpT.free 0
                have u1 := Lt.cell 1; have y1 := LpT.cell 1; have fy1 := LpT.free 1
                have u2 := Lt.cell 2; have y2 := LpT.cell 2; have fy2 := LpT.free 2
                have u3 := Lt.cell 3; have y3 := LpT.cell 3; have fy3 := LpT.free 3
                have u4 := Lt.cell 4; have y4 := LpT.cell 4; have fy4 := LpT.free 4
                have u5 := Lt.cell 5; have y5 := LpT.cell 5; have fy5 := LpT.free 5
                have u6 := Lt.cell 6; have y6 := LpT.cell 6; have fy6 := LpT.free 6
                have u7 := Lt.cell 7; have y7 := LpT.cell 7; have fy7 := LpT.free 7
                have u8 := Lt.cell 8; have y8 := LpT.cell 8; have fy8 := LpT.free 8
                have fu8 := Lt.free 8
                simp only [PW.cells, List.getElem?_toArray, List.getElem?_cons_zero, List.getElem?_cons_succ] at u0 u1 u2 u3 u4 u5 u6 u7 u8 y0 y1 y2 y3 y4 y5 y6 y7 y8
                have hpx : p ≠ w.heap.size + 1 := by omega
                have HFIN := Lib.hid (PgPost.fin HQ5.out hnt Lt LpT ot (by omega : w.heap.size ≤ W2.heap.size) bT (by omega) hpx)
                clear Lt LpT ot bT hnt
                go_wp2
                go_ret2
                exact HFIN.out
              · have hq := HQ4.out
                rw [if_neg hj0] at hq
                have HQ5 := Lib.hid hq
                have hj1 : (0 : Int) < (j : Int) := by omega
                have bJ := SJ.bel HB2.out (by omega)
                have hfit := ents_fit es x' x'' HPP.out
                have hel2 := entsBytes_le hfit
                have hnl := encNumber_le (es.length : Int)
                have hfl := encNumber_le (x''.frames : Int)
                have hel3 : (entsBytes es).length ≤ 52000 := by unfold entsBytes; rw [List.length_append]; have := HNE.out; omega
                have hM := more_page w.heap.size es B j cb HNE.out (by omega) wj ((3 : UInt8) :: encNumber x''.frames) (by simp; omega) c0 (HRE.out.of_below bJ (Nat.le_refl _)) (fun y hy => ⟨(hfit y hy).1, (hfit y hy).2, HEO.out y hy⟩)
                have hbI := HBI.out
                have hbJ := HBJ.out
                have SJ2 := SJ
                obtain ⟨Aj, nj, cj, hnj, Lj, oj, Kj⟩ := SJ2
                have hF := frame_page (w.heap.size + 1) x'' 3 w.heap.size (entsBytes es) ys Aj nj cj W2.heap.size wj Lj oj hM (by omega) (by omega) (by omega)
                rw [show (((3 : UInt8).toNat : Nat) : Int) = 3 from rfl] at hF
                have HFR := Lib.hid hF
                have HKJ := Lib.hid Kj
                clear hq HQ4 hM hF hel2 hnl hfl hel3 hbI hbJ SJ hnj Lj oj Kj bJ hfit
                go_upto_region 26 with (go_at_call 37; refine HFR.out.mono ?_; rintro e w6 ⟨rfl, hfr⟩)
                have S6 := hfr.st HKJ.out
                clear c0 C3 hfr
                have LpT := S6.loc HLP.out (by omega)
                have bT := S6.bel HB2.out (by omega)
                obtain ⟨At, nt, ct, hnt, Lt, ot, _⟩ := S6
                have u0 := Lt.cell 0; have y0 := LpT.cell 0; have fy0 := LpT.free 0
                have u1 := Lt.cell 1; have y1 := LpT.cell 1; have fy1 := LpT.free 1
                have u2 := Lt.cell 2; have y2 := LpT.cell 2; have fy2 := LpT.free 2
                have u3 := Lt.cell 3; have y3 := LpT.cell 3; have fy3 := LpT.free 3
                have u4 := Lt.cell 4; have y4 := LpT.cell 4; have fy4 := LpT.free 4
                have u5 := Lt.cell 5; have y5 := LpT.cell 5; have fy5 := LpT.free 5
                have u6 := Lt.cell 6; have y6 := LpT.cell 6; have fy6 := LpT.free 6
                have u7 := Lt.cell 7; have y7 := LpT.cell 7; have fy7 := LpT.free 7
                have u8 := Lt.cell 8; have y8 := LpT.cell 8; have fy8 := LpT.free 8
                have fu8 := Lt.free 8
                simp only [PW.cells, List.getElem?_toArray, List.getElem?_cons_zero, List.getElem?_cons_succ] at u0 u1 u2 u3 u4 u5 u6 u7 u8 y0 y1 y2 y3 y4 y5 y6 y7 y8
                have hpx : p ≠ w.heap.size + 1 := by omega
                have HFIN := Lib.hid (PgPost.fin HQ5.out hnt Lt LpT ot (by omega : w.heap.size ≤ W2.heap.size) bT (by omega) hpx)
                clear Lt LpT ot bT hnt
                go_wp2
                go_ret2
                exact HFIN.out
end Go.Proofs.YtnieminnnkbneaaGreat
