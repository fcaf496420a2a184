/- Walk of proc.reading.instr. -/
import Derived.Test.YtnieminnnkbneaaGreatProc3
import Derived.Test.YtnieminnnkbneaaGreatProc5
import Derived.Test.YtnieminnnkbneaaGreatRound2
import Derived.Deep.RegionHeld3
namespace Go.Proofs.YtnieminnnkbneaaGreat
open Go.RowKit

/-- What follows the fields. -/
def readRest (all : Nat) (o : Int) (q : (Ins × Rdr) × Int) : (Ins × Rdr) × Int :=
  if q.2 ≠ 0 then q else
  if hasVal o then
    if (q.1.2.text all).2.err ≠ 0 then ((q.1.1, (q.1.2.text all).2), (q.1.2.text all).2.err) else
    if (datumDecode (q.1.2.text all).1).2 ≠ 0 then ((q.1.1, (q.1.2.text all).2), (datumDecode (q.1.2.text all).1).2) else
    (({ q.1.1 with v := (datumDecode (q.1.2.text all).1).1 }, (q.1.2.text all).2), 0)
  else (q.1, 0)

theorem readIns_eq {all : Nat} {s s1 : Rdr} {o : Nat} (h : s.byte = (o, s1)) : readIns all s = if s1.err ≠ 0 then ((zeroIns o, s1), s1.err) else if (o : Int) < 1 ∨ 16 < (o : Int) then ((zeroIns o, s1), 16) else readRest all o (readFlds s1 (zeroIns o) (fieldsOf o)) := by
  unfold readIns
  rw [h]
  simp only
  by_cases h1 : s1.err ≠ 0
  · rw [if_pos h1, if_pos h1]
  rw [if_neg h1, if_neg h1]
  by_cases h2 : (o : Int) < 1 ∨ 16 < (o : Int)
  · rw [if_pos h2, if_pos h2]
  rw [if_neg h2, if_neg h2]
  rcases readFlds s1 (zeroIns o) (fieldsOf o) with ⟨⟨x, r⟩, e⟩
  unfold readRest
  simp only

theorem readFlds_step {q q2 : Rdr} {x y : Ins} {f : Fld} (h : readFld q x f = (y, q2)) (l : List Fld) : readFlds q x (f :: l) = if q2.err ≠ 0 then ((y, q2), q2.err) else readFlds q2 y l := by
  rw [readFlds, h]

theorem RdStep.alloc {w w1 : World} {r : Nat} {s : Rdr} (h : RdStep w w1 r s) (o : Obj) : RdStep w (w1.alloc o) r s := ⟨h.1.alloc o, h.2.alloc h.2.size o⟩
theorem RdStep.set {w w1 : World} {r : Nat} {s : Rdr} (h : RdStep w w1 r s) {b : Nat} {c : Array Value} {t : TypeId} (hl : Loc w1 b c t) (h1 : t ≠ 118) (h2 : t ≠ 5) (hb : w.heap.size ≤ b) (o : Nat) (v : Value) : RdStep w (w1.setCell ⟨b, o, none⟩ v) r s :=
  ⟨h.1.other hl h1 h2 o v, h.2.setCell (.inl hb) v⟩
/-- A block of another type is not the reader's. -/
theorem Rd.ne {w : World} {r b : Nat} {s : Rdr} {c : Array Value} {t : TypeId} (h : Rd w r s) (hl : Loc w b c t) (ht : t ≠ 118) : b ≠ r := by
  obtain ⟨d, h0, _⟩ := h
  exact blk_ne hl h0 ht
/-- The table stands where its own blocks stand. -/
theorem Tab.keep {w w' : World} {lb : Nat} (h : Tab w lb) (hk : ∀ g cs t, (t = 192 ∨ t = 184) → Loc w g cs t → Loc w' g cs t) : Tab w' lb := by
  obtain ⟨c, B, h1, h2⟩ := h
  exact ⟨c, B, hk _ _ _ (.inr rfl) h1, h2.1, h2.2.1, h2.2.2.1, fun op ho => by
    obtain ⟨g, h3, h4, h5⟩ := h2.2.2.2 op ho
    exact ⟨g, h3, hk _ _ _ (.inl rfl) h4, h5⟩⟩
theorem Tab.rd {w w' : World} {lb r : Nat} {s s' : Rdr} (h : Tab w lb) (hr : Rd w r s) (hs : RdStep w w' r s') : Tab w' lb :=
  h.keep fun _ _ _ ht hl => hl.rd hs (hr.ne hl (by rcases ht with rfl | rfl <;> decide))
theorem Tab.set {w : World} {lb b : Nat} {c : Array Value} {t : TypeId} (h : Tab w lb) (hl : Loc w b c t) (h1 : t ≠ 192) (h2 : t ≠ 184) (o : Nat) (v : Value) : Tab (w.setCell ⟨b, o, none⟩ v) lb :=
  h.keep fun _ _ _ ht hg => hg.other (a := ⟨b, o, none⟩) (hg.ne hl (by rcases ht with rfl | rfl <;> exact Ne.symm (by assumption))) v
theorem Tab.alloc {w : World} {lb : Nat} (h : Tab w lb) (o : Obj) : Tab (w.alloc o) lb := h.keep fun _ _ _ _ hl => hl.alloc o
theorem Tab.drew {w : World} {lb : Nat} (h : Tab w lb) : Tab w.drew lb := h.keep fun _ _ _ _ hl => hl.drew

/-- An instruction laid cell by cell into a result of one's own. -/
theorem ret_ins {w wi : World} {r b : Nat} {s : Rdr} {c0 c1 c2 c3 c4 c5 c6 c7 : Value} (R : RdStep w wi r s) (LR : Loc wi b #[c0, c1, c2, c3, c4, c5, c6, c7] 109) (hb : w.heap.size ≤ b) (x : Ins) :
    RdStep w ((((((((wi.setCell ⟨b, 0, none⟩ (.int .i64 x.op)).setCell ⟨b, 1, none⟩ (.int .i64 x.a)).setCell ⟨b, 2, none⟩ (.int .i64 x.b)).setCell ⟨b, 3, none⟩ (.int .i64 x.c)).setCell ⟨b, 4, none⟩ (.int .i64 x.n)).setCell ⟨b, 5, none⟩ (.int .i64 x.v.kind)).setCell ⟨b, 6, none⟩ (.int .i64 x.v.num)).setCell ⟨b, 7, none⟩ (.string x.v.text)) r s ∧
      Loc ((((((((wi.setCell ⟨b, 0, none⟩ (.int .i64 x.op)).setCell ⟨b, 1, none⟩ (.int .i64 x.a)).setCell ⟨b, 2, none⟩ (.int .i64 x.b)).setCell ⟨b, 3, none⟩ (.int .i64 x.c)).setCell ⟨b, 4, none⟩ (.int .i64 x.n)).setCell ⟨b, 5, none⟩ (.int .i64 x.v.kind)).setCell ⟨b, 6, none⟩ (.int .i64 x.v.num)).setCell ⟨b, 7, none⟩ (.string x.v.text)) b (insCells x) 109 := by
  have R0 := R.set LR (by decide) (by decide) hb 0 (.int .i64 x.op)
  have L0 := LR.set 0 (.int .i64 x.op)
  have R1 := R0.set L0 (by decide) (by decide) hb 1 (.int .i64 x.a)
  have L1 := L0.set 1 (.int .i64 x.a)
  have R2 := R1.set L1 (by decide) (by decide) hb 2 (.int .i64 x.b)
  have L2 := L1.set 2 (.int .i64 x.b)
  have R3 := R2.set L2 (by decide) (by decide) hb 3 (.int .i64 x.c)
  have L3 := L2.set 3 (.int .i64 x.c)
  have R4 := R3.set L3 (by decide) (by decide) hb 4 (.int .i64 x.n)
  have L4 := L3.set 4 (.int .i64 x.n)
  have R5 := R4.set L4 (by decide) (by decide) hb 5 (.int .i64 x.v.kind)
  have L5 := L4.set 5 (.int .i64 x.v.kind)
  have R6 := R5.set L5 (by decide) (by decide) hb 6 (.int .i64 x.v.num)
  have L6 := L5.set 6 (.int .i64 x.v.num)
  have R7 := R6.set L6 (by decide) (by decide) hb 7 (.string x.v.text)
  have L7 := L6.set 7 (.string x.v.text)
  simp only [List.setIfInBounds_toArray, List.set_cons_zero, List.set_cons_succ] at L7
  exact ⟨R7, L7⟩

theorem RdStep.below {w w1 w2 : World} {r : Nat} {s : Rdr} (h : RdStep w w1 r s) (hb : Below w1.heap.size w1 w2) : RdStep w w2 r s := ⟨h.1.below hb, h.2.step (Keep.of_below hb (fun _ => False)) h.2.size (fun _ _ f => f.elim)⟩

theorem text_len (q : Rdr) (most : Int) : (q.text most).1.length ≤ q.xs.length := by
  unfold Rdr.text
  by_cases h0 : q.err ≠ 0
  · rw [if_pos h0]; simp
  rw [if_neg h0]
  rcases hg : q.number with ⟨n, q1⟩
  have hx : q1.xs = q.xs := by have := number_xs q; rw [hg] at this; exact this
  simp only
  split
  · simp
  · split
    · simp
    · split
      · simp
      · simp only [List.length_take, List.length_drop, hx]; omega

theorem zeroIns_cells (o : Nat) : insCells (zeroIns o) = #[.int .i64 (o : Int), .int .i64 0, .int .i64 0, .int .i64 0, .int .i64 0, .int .i64 0, .int .i64 0, .string ⟨#[]⟩] := rfl

set_option maxRecDepth 100000 in
set_option maxHeartbeats 4000000 in
theorem rinstr_any (lb r : Nat) (s : Rdr) (all : Nat) (w : World) (hT : Tab w lb) (h : Rd w r s) (hal : all ≤ 140737488355328) :
    Calls Tryz.prog 120 #[.agg #[.pointer (some ⟨r, 0, none⟩), .int .i64 all], .pointer (some ⟨lb, 0, none⟩)] w fun e w' =>
      e = (if (readIns all s).2 = 0 then .returned (.agg (insCells (readIns all s).1.1)) else .panicked (refusal (readIns all s).2)) ∧ RdStep w w' r (readIns all s).1.2 := by
  have ho := rbyte_lt s
  obtain ⟨o, s1, hos⟩ : ∃ o s1, s.byte = (o, s1) := ⟨_, _, rfl⟩
  have hri := readIns_eq (all := all) hos
  rw [hos] at ho
  simp only at ho
  obtain ⟨X, s', E, hres⟩ : ∃ X s' E, readIns all s = ((X, s'), E) := ⟨_, _, _, rfl⟩
  rw [hres]
  rw [hres] at hri
  simp only
  have HOS := Lib.hid hos
  have HRI := Lib.hid hri
  have hrw := h.lt
  have HT := Lib.hid hT
  clear hos hri hres hT
  go_enter Tryz.func120, Tryz.ntmps120
  go_wp2_with fail
  refine (rbyte_any r _ _ ((h.alloc _).alloc _)).mono ?_; rw [HOS.out]; rintro e w1 ⟨rfl, hS1⟩
  have LB1 := ((Loc.new w #[.pointer (some ⟨r, 0, none⟩), .int .i64 all] 205).alloc (.cells #[.int .i64 0, .int .i64 0, .int .i64 0, .int .i64 0, .int .i64 0, .int .i64 0, .int .i64 0, .string ⟨#[]⟩] 109)).rd hS1 (by omega)
  have LR1 := (Loc.new (w.alloc (.cells #[.pointer (some ⟨r, 0, none⟩), .int .i64 all] 205)) #[.int .i64 0, .int .i64 0, .int .i64 0, .int .i64 0, .int .i64 0, .int .i64 0, .int .i64 0, .string ⟨#[]⟩] 109).rd hS1 (by simp; omega)
  simp only [World.size_alloc] at LR1
  have R1 := (((RdStep.refl h).alloc _).alloc _).then hS1
  have hlt1 := LR1.lt
  have hlt0 := LB1.lt
  have b0 := LB1.cell 0; have b1 := LB1.cell 1
  simp at b0 b1
  clear hS1
  go_wp2_with fail
  have LX2 := Loc.new w1 (insCells (zeroIns o)) 109
  have LB2 := LB1.alloc (.cells (insCells (zeroIns o)) 109)
  have LR2 := LR1.alloc (.cells (insCells (zeroIns o)) 109)
  have R2 := R1.alloc (.cells (insCells (zeroIns o)) 109)
  refine (sure_any r s1 all _ R2.1).mono ?_; rintro e w2 ⟨rfl, hS2⟩
  have LX3 := LX2.rd hS2 (by omega)
  have LB3 := LB2.rd hS2 (by omega)
  have LR3 := LR2.rd hS2 (by omega)
  have R3 := R2.then hS2
  have x0 := LX3.cell 0
  simp [zeroIns_cells] at x0
  have hlt3 := LX3.lt
  clear hS2 LX2 LB2 LR2 R2 LB1 LR1 R1 b0 b1
  by_cases he : s1.err = 0
  · have HE := Lib.hid he
    have hri := HRI.out
    rw [if_neg (by simp [he])] at hri
    simp only [if_pos he]
    by_cases hop : (o : Int) < 1 ∨ 16 < (o : Int)
    · rw [if_pos hop] at hri
      obtain ⟨hri1, rfl⟩ := Prod.mk.inj hri
      obtain ⟨rfl, rfl⟩ := Prod.mk.inj hri1
      clear he hri hri1
      go_wp2
      all_goals exact ⟨rfl, rfl, R3⟩
    · rw [if_neg hop] at hri
      have HRI2 := Lib.hid hri
      clear he hri
      have ho1 : 1 ≤ (o : Int) := by omega
      have ho2 : (o : Int) ≤ 16 := by omega
      obtain ⟨S, y0, y1, hSg⟩ := tab_at HT.out o (by omega) (by omega)
      obtain ⟨L, hL⟩ : ∃ L, L = (fieldsOf o).length := ⟨_, rfl⟩
      obtain ⟨v, hv⟩ : ∃ v, v = hasVal o := ⟨_, rfl⟩
      rw [← hL] at y0 hSg
      rw [← hv] at y1
      have HL := Lib.hid hL
      have HV := Lib.hid hv
      have HSG := Lib.hid hSg
      clear hL hv hSg hop
      have hlb : lb < w.heap.size ∧ lb ≠ r := by
        obtain ⟨_, _, hl, _⟩ := HT.out
        exact ⟨hl.lt, h.ne hl (by decide)⟩
      have HB := fun W s2 (hs : RdStep w W r s2) i => hs.2.cell lb i hlb.1 hlb.2
      have HG := fun W s2 (hs : RdStep w W r s2) g cs (hg : Loc w g cs 192) => Loc.rd hg hs (h.ne hg (by decide))
      have t0 := (HB _ _ R3 (o * 2)).trans y0
      go_wp2
      go_quiet (fail)
      go_wp2
      go_loopw [35] (fun i wr => ∃ j x q, j ≤ L ∧ i = .int .i64 (j : Nat) ∧ RdStep w wr r q ∧ q.err = 0 ∧ x.op = (o : Int) ∧ readFlds s1 (zeroIns o) (fieldsOf o) = readFlds q x ((fieldsOf o).drop j) ∧
          Loc wr w1.heap.size (insCells x) 109 ∧ Loc wr w.heap.size #[.pointer (some ⟨r, 0, none⟩), .int .i64 all] 205 ∧
          Loc wr (w.heap.size + 1) #[.int .i64 0, .int .i64 0, .int .i64 0, .int .i64 0, .int .i64 0, .int .i64 0, .int .i64 0, .string ⟨#[]⟩] 109) (fun i _ => L - (intOf i).toNat)
      case atStart => exact ⟨0, zeroIns o, s1, Nat.zero_le _, rfl, R3.drewN _, HE.out, rfl, rfl, LX3, LB3, LR3⟩
      case round =>
        obtain ⟨wi, rfl⟩ : ∃ wi, wi = wr := ⟨_, rfl⟩
        obtain ⟨j, x, q, hj, rfl, R4, hq, hxo, hrf, LX4, LB4, LR4⟩ := hrel
        have HRF := Lib.hid hrf
        have HQ := Lib.hid hq
        clear hrf hq x0 t0 LX3 LB3 LR3 R3
        by_cases hjl : j < L
        · obtain ⟨g, rfl, hg⟩ := HSG.out (by omega)
          have hgi := HG _ _ R4 _ _ hg
          have hjf : j < (fieldsOf o).length := by rw [← HL.out]; exact hjl
          have c0 := hgi.cell (j * 3 + 0); have c2 := hgi.cell (j * 3 + 2); have c1 := hgi.cell (j * 3 + 1)
          rw [shapeCells_get _ _ hjf _ (by decide)] at c0 c1 c2
          have hdr : (fieldsOf o).drop j = (fieldsOf o)[j] :: (fieldsOf o).drop (j + 1) := List.drop_eq_getElem_cons hjf
          rw [hdr] at HRF
          generalize hf : (fieldsOf o)[j] = f at *
          simp [Fld.cells] at c0 c1 c2
          obtain ⟨one, hone⟩ : ∃ one, one = f.one := ⟨_, rfl⟩
          rw [← hone] at c2
          have HONE := Lib.hid hone
          have hlti := LX4.lt
          have hlti2 := LR4.lt
          have hjl' : (j : Int) < (L : Int) := by omega
          have LXj := LX4.alloc (.cells #[.func (.func f.atFn) #[] #[], .func (.func f.mayFn) #[] #[], .bool one] 192)
          have LBj := LB4.alloc (.cells #[.func (.func f.atFn) #[] #[], .func (.func f.mayFn) #[] #[], .bool one] 192)
          have LRj := LR4.alloc (.cells #[.func (.func f.atFn) #[] #[], .func (.func f.mayFn) #[] #[], .bool one] 192)
          have LFj := Loc.new wi #[.func (.func f.atFn) #[] #[], .func (.func f.mayFn) #[] #[], .bool one] 192
          have Rj := R4.alloc (.cells #[.func (.func f.atFn) #[] #[], .func (.func f.mayFn) #[] #[], .bool one] 192)
          have hAt := fun W => at_any f w1.heap.size W
          have HAt := Lib.hid hAt
          have bj0 := LBj.cell 0
          simp at bj0
          have hL4 : L ≤ 4 := by rw [HL.out]; exact fieldsOf_len o
          clear hf hdr hone hAt hgi hg LX4 LB4 LR4 R4
          have hne1 : (w1.heap.size : Nat) ≠ wi.heap.size := by omega
          have hne2 : (w1.heap.size : Nat) ≠ w.heap.size := by omega
          cases one with
          | true =>
            obtain ⟨bt, q2, hbt⟩ : ∃ bt q2, q.byte = (bt, q2) := ⟨_, _, rfl⟩
            have hbl := rbyte_lt q
            rw [hbt] at hbl
            simp only at hbl
            have hst := readFlds_step (q := q) (q2 := q2) (x := x) (y := f.put x bt) (f := f) (by unfold readFld; rw [if_pos HONE.out.symm, hbt]) ((fieldsOf o).drop (j + 1))
            rw [← HRF.out] at hst
            have HST := Lib.hid hst
            have HBT := Lib.hid hbt
            have hwr : IntKind.i64.wrap (bt : Int) = (bt : Int) := by simp [IntKind.bits, IntKind.wrap, IntKind.signed]; omega
            clear hbt hst HRF HQ
            cases f
            case arg => exact absurd HONE.out (by decide)
            case how => exact absurd HONE.out (by decide)
            case many => exact absurd HONE.out (by decide)
            case skip => exact absurd HONE.out (by decide)
            case a =>
              simp only [Fld.atFn, Fld.idx] at c0 LXj LBj LRj LFj Rj bj0 HAt
              go_wp2_with fail
              generalize hW : World.alloc wi _ = W at *
              have fj0 := LFj.cell 0
              simp at fj0
              go_region_held3 (fun V => V.cell? ⟨wi.heap.size, 0, none⟩ = some (.func (.func 127) #[] #[]) ∧ V.cell? ⟨w.heap.size, 0, none⟩ = some (.pointer (some ⟨r, 0, none⟩))) ((first | (constructor <;> assumption) | (constructor <;> (first | (rw [World.cell?_setCell_far _ _ _ _ hne1]; assumption) | (rw [World.cell?_setCell_far _ _ _ _ hne2]; assumption))))) ((first | (go_at_call 127; refine (HAt.out _).mono ?_; rintro e w' ⟨rfl, rfl⟩) | (go_at_call 26; refine (rbyte_any r q W.drew Rj.1).mono ?_; rw [HBT.out]; rintro e w7 ⟨rfl, hS7⟩; have f7 := ((LFj.drewN 1).rd hS7 (by omega)).cell 0; have LB7 := (LBj.drewN 1).rd hS7 (by omega); have b7 := LB7.cell 0; have b7' := LB7.cell 1; have LX7 := (LXj.drewN 1).rd hS7 (by omega); have x7 := LX7.cell 1; have z7 := LX7.free 1; simp [insCells] at f7 b7 b7' x7)))
              have S8 := ((Rj.drewN 1).then hS7).set LX7 (by decide) (by decide) (by omega) 1 (.int .i64 (bt : Int))
              have LX8 := LX7.set 1 (.int .i64 (bt : Int))
              have LB8 := LB7.other (a := ⟨w1.heap.size, 1, none⟩) (by show w.heap.size ≠ w1.heap.size; omega) (.int .i64 (bt : Int))
              have LR8 := ((LRj.drewN 1).rd hS7 (by omega)).other (a := ⟨w1.heap.size, 1, none⟩) (by show w.heap.size + 1 ≠ w1.heap.size; omega) (.int .i64 (bt : Int))
              have hput := insCells_put x .a (bt : Int)
              simp only [Fld.idx] at hput
              rw [← hput] at LX8
              clear hput LX7 LB7 f7 x7 z7 LXj LBj LRj LFj Rj bj0 fj0 hS7
              go_wp2_with fail
              refine (sure_any r q2 all _ S8.1).mono ?_; rintro e w9 ⟨rfl, hS9⟩
              have S9 := S8.then hS9
              have LX9 := LX8.rd hS9 (by omega)
              have LB9 := LB8.rd hS9 (by omega)
              have LR9 := LR8.rd hS9 (by omega)
              by_cases hq2 : q2.err = 0
              · have hst2 := HST.out
                rw [if_neg (by simp [hq2])] at hst2
                have HST2 := Lib.hid hst2
                simp only [if_pos hq2]
                have HQ2 := Lib.hid hq2
                clear hq2 hst2
                go_wp2
                go_roundw
                case rel => exact ⟨j + 1, _, q2, by omega, by go_num, S9, HQ2.out, (Fld.put_op x .a (bt : Int)).trans hxo, HST2.out, LX9, LB9, LR9⟩
                case measure => simp [intOf]; omega
              · have hr := HRI2.out
                have hst2 := HST.out
                rw [if_pos hq2] at hst2
                rw [hst2] at hr
                unfold readRest at hr
                simp only at hr
                rw [if_pos hq2] at hr
                obtain ⟨hri1, rfl⟩ := Prod.mk.inj hr
                obtain ⟨rfl, rfl⟩ := Prod.mk.inj hri1
                simp only [if_neg hq2]
                have HN := Lib.hid hq2
                clear hq2 hst2 hr hri1
                go_wp2
                first | exact ⟨rfl, (if_neg HN.out).symm, S9⟩ | exact ⟨rfl, rfl, S9⟩
            case b =>
              simp only [Fld.atFn, Fld.idx] at c0 LXj LBj LRj LFj Rj bj0 HAt
              go_wp2_with fail
              generalize hW : World.alloc wi _ = W at *
              have fj0 := LFj.cell 0
              simp at fj0
              go_region_held3 (fun V => V.cell? ⟨wi.heap.size, 0, none⟩ = some (.func (.func 129) #[] #[]) ∧ V.cell? ⟨w.heap.size, 0, none⟩ = some (.pointer (some ⟨r, 0, none⟩))) ((first | (constructor <;> assumption) | (constructor <;> (first | (rw [World.cell?_setCell_far _ _ _ _ hne1]; assumption) | (rw [World.cell?_setCell_far _ _ _ _ hne2]; assumption))))) ((first | (go_at_call 129; refine (HAt.out _).mono ?_; rintro e w' ⟨rfl, rfl⟩) | (go_at_call 26; refine (rbyte_any r q W.drew Rj.1).mono ?_; rw [HBT.out]; rintro e w7 ⟨rfl, hS7⟩; have f7 := ((LFj.drewN 1).rd hS7 (by omega)).cell 0; have LB7 := (LBj.drewN 1).rd hS7 (by omega); have b7 := LB7.cell 0; have b7' := LB7.cell 1; have LX7 := (LXj.drewN 1).rd hS7 (by omega); have x7 := LX7.cell 2; have z7 := LX7.free 2; simp [insCells] at f7 b7 b7' x7)))
              have S8 := ((Rj.drewN 1).then hS7).set LX7 (by decide) (by decide) (by omega) 2 (.int .i64 (bt : Int))
              have LX8 := LX7.set 2 (.int .i64 (bt : Int))
              have LB8 := LB7.other (a := ⟨w1.heap.size, 2, none⟩) (by show w.heap.size ≠ w1.heap.size; omega) (.int .i64 (bt : Int))
              have LR8 := ((LRj.drewN 1).rd hS7 (by omega)).other (a := ⟨w1.heap.size, 2, none⟩) (by show w.heap.size + 1 ≠ w1.heap.size; omega) (.int .i64 (bt : Int))
              have hput := insCells_put x .b (bt : Int)
              simp only [Fld.idx] at hput
              rw [← hput] at LX8
              clear hput LX7 LB7 f7 x7 z7 LXj LBj LRj LFj Rj bj0 fj0 hS7
              go_wp2_with fail
              refine (sure_any r q2 all _ S8.1).mono ?_; rintro e w9 ⟨rfl, hS9⟩
              have S9 := S8.then hS9
              have LX9 := LX8.rd hS9 (by omega)
              have LB9 := LB8.rd hS9 (by omega)
              have LR9 := LR8.rd hS9 (by omega)
              by_cases hq2 : q2.err = 0
              · have hst2 := HST.out
                rw [if_neg (by simp [hq2])] at hst2
                have HST2 := Lib.hid hst2
                simp only [if_pos hq2]
                have HQ2 := Lib.hid hq2
                clear hq2 hst2
                go_wp2
                go_roundw
                case rel => exact ⟨j + 1, _, q2, by omega, by go_num, S9, HQ2.out, (Fld.put_op x .b (bt : Int)).trans hxo, HST2.out, LX9, LB9, LR9⟩
                case measure => simp [intOf]; omega
              · have hr := HRI2.out
                have hst2 := HST.out
                rw [if_pos hq2] at hst2
                rw [hst2] at hr
                unfold readRest at hr
                simp only at hr
                rw [if_pos hq2] at hr
                obtain ⟨hri1, rfl⟩ := Prod.mk.inj hr
                obtain ⟨rfl, rfl⟩ := Prod.mk.inj hri1
                simp only [if_neg hq2]
                have HN := Lib.hid hq2
                clear hq2 hst2 hr hri1
                go_wp2
                first | exact ⟨rfl, (if_neg HN.out).symm, S9⟩ | exact ⟨rfl, rfl, S9⟩
            case c =>
              simp only [Fld.atFn, Fld.idx] at c0 LXj LBj LRj LFj Rj bj0 HAt
              go_wp2_with fail
              generalize hW : World.alloc wi _ = W at *
              have fj0 := LFj.cell 0
              simp at fj0
              go_region_held3 (fun V => V.cell? ⟨wi.heap.size, 0, none⟩ = some (.func (.func 130) #[] #[]) ∧ V.cell? ⟨w.heap.size, 0, none⟩ = some (.pointer (some ⟨r, 0, none⟩))) ((first | (constructor <;> assumption) | (constructor <;> (first | (rw [World.cell?_setCell_far _ _ _ _ hne1]; assumption) | (rw [World.cell?_setCell_far _ _ _ _ hne2]; assumption))))) ((first | (go_at_call 130; refine (HAt.out _).mono ?_; rintro e w' ⟨rfl, rfl⟩) | (go_at_call 26; refine (rbyte_any r q W.drew Rj.1).mono ?_; rw [HBT.out]; rintro e w7 ⟨rfl, hS7⟩; have f7 := ((LFj.drewN 1).rd hS7 (by omega)).cell 0; have LB7 := (LBj.drewN 1).rd hS7 (by omega); have b7 := LB7.cell 0; have b7' := LB7.cell 1; have LX7 := (LXj.drewN 1).rd hS7 (by omega); have x7 := LX7.cell 3; have z7 := LX7.free 3; simp [insCells] at f7 b7 b7' x7)))
              have S8 := ((Rj.drewN 1).then hS7).set LX7 (by decide) (by decide) (by omega) 3 (.int .i64 (bt : Int))
              have LX8 := LX7.set 3 (.int .i64 (bt : Int))
              have LB8 := LB7.other (a := ⟨w1.heap.size, 3, none⟩) (by show w.heap.size ≠ w1.heap.size; omega) (.int .i64 (bt : Int))
              have LR8 := ((LRj.drewN 1).rd hS7 (by omega)).other (a := ⟨w1.heap.size, 3, none⟩) (by show w.heap.size + 1 ≠ w1.heap.size; omega) (.int .i64 (bt : Int))
              have hput := insCells_put x .c (bt : Int)
              simp only [Fld.idx] at hput
              rw [← hput] at LX8
              clear hput LX7 LB7 f7 x7 z7 LXj LBj LRj LFj Rj bj0 fj0 hS7
              go_wp2_with fail
              refine (sure_any r q2 all _ S8.1).mono ?_; rintro e w9 ⟨rfl, hS9⟩
              have S9 := S8.then hS9
              have LX9 := LX8.rd hS9 (by omega)
              have LB9 := LB8.rd hS9 (by omega)
              have LR9 := LR8.rd hS9 (by omega)
              by_cases hq2 : q2.err = 0
              · have hst2 := HST.out
                rw [if_neg (by simp [hq2])] at hst2
                have HST2 := Lib.hid hst2
                simp only [if_pos hq2]
                have HQ2 := Lib.hid hq2
                clear hq2 hst2
                go_wp2
                go_roundw
                case rel => exact ⟨j + 1, _, q2, by omega, by go_num, S9, HQ2.out, (Fld.put_op x .c (bt : Int)).trans hxo, HST2.out, LX9, LB9, LR9⟩
                case measure => simp [intOf]; omega
              · have hr := HRI2.out
                have hst2 := HST.out
                rw [if_pos hq2] at hst2
                rw [hst2] at hr
                unfold readRest at hr
                simp only at hr
                rw [if_pos hq2] at hr
                obtain ⟨hri1, rfl⟩ := Prod.mk.inj hr
                obtain ⟨rfl, rfl⟩ := Prod.mk.inj hri1
                simp only [if_neg hq2]
                have HN := Lib.hid hq2
                clear hq2 hst2 hr hri1
                go_wp2
                first | exact ⟨rfl, (if_neg HN.out).symm, S9⟩ | exact ⟨rfl, rfl, S9⟩
          | false =>
            obtain ⟨bt, q2, hbt⟩ : ∃ bt q2, q.number = (bt, q2) := ⟨_, _, rfl⟩
            have hst := readFlds_step (q := q) (q2 := q2) (x := x) (y := f.put x bt) (f := f) (by unfold readFld; rw [if_neg (by rw [← HONE.out]; simp), hbt]) ((fieldsOf o).drop (j + 1))
            rw [← HRF.out] at hst
            have HST := Lib.hid hst
            have HBT := Lib.hid hbt
            clear hbt hst HRF HQ
            cases f
            case a => exact absurd HONE.out (by decide)
            case b => exact absurd HONE.out (by decide)
            case c => exact absurd HONE.out (by decide)
            case arg =>
              simp only [Fld.atFn, Fld.idx] at c0 LXj LBj LRj LFj Rj bj0 HAt
              go_wp2_with fail
              generalize hW : World.alloc wi _ = W at *
              have fj0 := LFj.cell 0
              simp at fj0
              go_region_held3 (fun V => V.cell? ⟨wi.heap.size, 0, none⟩ = some (.func (.func 131) #[] #[]) ∧ V.cell? ⟨w.heap.size, 0, none⟩ = some (.pointer (some ⟨r, 0, none⟩))) ((first | (constructor <;> assumption) | (constructor <;> (first | (rw [World.cell?_setCell_far _ _ _ _ hne1]; assumption) | (rw [World.cell?_setCell_far _ _ _ _ hne2]; assumption))))) ((first | (go_at_call 131; refine (HAt.out _).mono ?_; rintro e w' ⟨rfl, rfl⟩) | (go_at_call 28; refine (rnumber_any r q W.drew Rj.1).mono ?_; rw [HBT.out]; rintro e w7 ⟨rfl, hS7⟩; have f7 := ((LFj.drewN 1).rd hS7 (by omega)).cell 0; have LB7 := (LBj.drewN 1).rd hS7 (by omega); have b7 := LB7.cell 0; have b7' := LB7.cell 1; have LX7 := (LXj.drewN 1).rd hS7 (by omega); have x7 := LX7.cell 4; have z7 := LX7.free 4; simp [insCells] at f7 b7 b7' x7)))
              have S8 := ((Rj.drewN 1).then hS7).set LX7 (by decide) (by decide) (by omega) 4 (.int .i64 bt)
              have LX8 := LX7.set 4 (.int .i64 bt)
              have LB8 := LB7.other (a := ⟨w1.heap.size, 4, none⟩) (by show w.heap.size ≠ w1.heap.size; omega) (.int .i64 bt)
              have LR8 := ((LRj.drewN 1).rd hS7 (by omega)).other (a := ⟨w1.heap.size, 4, none⟩) (by show w.heap.size + 1 ≠ w1.heap.size; omega) (.int .i64 bt)
              have hput := insCells_put x .arg bt
              simp only [Fld.idx] at hput
              rw [← hput] at LX8
              clear hput LX7 LB7 f7 x7 z7 LXj LBj LRj LFj Rj bj0 fj0 hS7
              go_wp2_with fail
              refine (sure_any r q2 all _ S8.1).mono ?_; rintro e w9 ⟨rfl, hS9⟩
              have S9 := S8.then hS9
              have LX9 := LX8.rd hS9 (by omega)
              have LB9 := LB8.rd hS9 (by omega)
              have LR9 := LR8.rd hS9 (by omega)
              by_cases hq2 : q2.err = 0
              · have hst2 := HST.out
                rw [if_neg (by simp [hq2])] at hst2
                have HST2 := Lib.hid hst2
                simp only [if_pos hq2]
                have HQ2 := Lib.hid hq2
                clear hq2 hst2
                go_wp2
                go_roundw
                case rel => exact ⟨j + 1, _, q2, by omega, by go_num, S9, HQ2.out, (Fld.put_op x .arg bt).trans hxo, HST2.out, LX9, LB9, LR9⟩
                case measure => simp [intOf]; omega
              · have hr := HRI2.out
                have hst2 := HST.out
                rw [if_pos hq2] at hst2
                rw [hst2] at hr
                unfold readRest at hr
                simp only at hr
                rw [if_pos hq2] at hr
                obtain ⟨hri1, rfl⟩ := Prod.mk.inj hr
                obtain ⟨rfl, rfl⟩ := Prod.mk.inj hri1
                simp only [if_neg hq2]
                have HN := Lib.hid hq2
                clear hq2 hst2 hr hri1
                go_wp2
                first | exact ⟨rfl, (if_neg HN.out).symm, S9⟩ | exact ⟨rfl, rfl, S9⟩
            case how =>
              simp only [Fld.atFn, Fld.idx] at c0 LXj LBj LRj LFj Rj bj0 HAt
              go_wp2_with fail
              generalize hW : World.alloc wi _ = W at *
              have fj0 := LFj.cell 0
              simp at fj0
              go_region_held3 (fun V => V.cell? ⟨wi.heap.size, 0, none⟩ = some (.func (.func 131) #[] #[]) ∧ V.cell? ⟨w.heap.size, 0, none⟩ = some (.pointer (some ⟨r, 0, none⟩))) ((first | (constructor <;> assumption) | (constructor <;> (first | (rw [World.cell?_setCell_far _ _ _ _ hne1]; assumption) | (rw [World.cell?_setCell_far _ _ _ _ hne2]; assumption))))) ((first | (go_at_call 131; refine (HAt.out _).mono ?_; rintro e w' ⟨rfl, rfl⟩) | (go_at_call 28; refine (rnumber_any r q W.drew Rj.1).mono ?_; rw [HBT.out]; rintro e w7 ⟨rfl, hS7⟩; have f7 := ((LFj.drewN 1).rd hS7 (by omega)).cell 0; have LB7 := (LBj.drewN 1).rd hS7 (by omega); have b7 := LB7.cell 0; have b7' := LB7.cell 1; have LX7 := (LXj.drewN 1).rd hS7 (by omega); have x7 := LX7.cell 4; have z7 := LX7.free 4; simp [insCells] at f7 b7 b7' x7)))
              have S8 := ((Rj.drewN 1).then hS7).set LX7 (by decide) (by decide) (by omega) 4 (.int .i64 bt)
              have LX8 := LX7.set 4 (.int .i64 bt)
              have LB8 := LB7.other (a := ⟨w1.heap.size, 4, none⟩) (by show w.heap.size ≠ w1.heap.size; omega) (.int .i64 bt)
              have LR8 := ((LRj.drewN 1).rd hS7 (by omega)).other (a := ⟨w1.heap.size, 4, none⟩) (by show w.heap.size + 1 ≠ w1.heap.size; omega) (.int .i64 bt)
              have hput := insCells_put x .how bt
              simp only [Fld.idx] at hput
              rw [← hput] at LX8
              clear hput LX7 LB7 f7 x7 z7 LXj LBj LRj LFj Rj bj0 fj0 hS7
              go_wp2_with fail
              refine (sure_any r q2 all _ S8.1).mono ?_; rintro e w9 ⟨rfl, hS9⟩
              have S9 := S8.then hS9
              have LX9 := LX8.rd hS9 (by omega)
              have LB9 := LB8.rd hS9 (by omega)
              have LR9 := LR8.rd hS9 (by omega)
              by_cases hq2 : q2.err = 0
              · have hst2 := HST.out
                rw [if_neg (by simp [hq2])] at hst2
                have HST2 := Lib.hid hst2
                simp only [if_pos hq2]
                have HQ2 := Lib.hid hq2
                clear hq2 hst2
                go_wp2
                go_roundw
                case rel => exact ⟨j + 1, _, q2, by omega, by go_num, S9, HQ2.out, (Fld.put_op x .how bt).trans hxo, HST2.out, LX9, LB9, LR9⟩
                case measure => simp [intOf]; omega
              · have hr := HRI2.out
                have hst2 := HST.out
                rw [if_pos hq2] at hst2
                rw [hst2] at hr
                unfold readRest at hr
                simp only at hr
                rw [if_pos hq2] at hr
                obtain ⟨hri1, rfl⟩ := Prod.mk.inj hr
                obtain ⟨rfl, rfl⟩ := Prod.mk.inj hri1
                simp only [if_neg hq2]
                have HN := Lib.hid hq2
                clear hq2 hst2 hr hri1
                go_wp2
                first | exact ⟨rfl, (if_neg HN.out).symm, S9⟩ | exact ⟨rfl, rfl, S9⟩
            case many =>
              simp only [Fld.atFn, Fld.idx] at c0 LXj LBj LRj LFj Rj bj0 HAt
              go_wp2_with fail
              generalize hW : World.alloc wi _ = W at *
              have fj0 := LFj.cell 0
              simp at fj0
              go_region_held3 (fun V => V.cell? ⟨wi.heap.size, 0, none⟩ = some (.func (.func 131) #[] #[]) ∧ V.cell? ⟨w.heap.size, 0, none⟩ = some (.pointer (some ⟨r, 0, none⟩))) ((first | (constructor <;> assumption) | (constructor <;> (first | (rw [World.cell?_setCell_far _ _ _ _ hne1]; assumption) | (rw [World.cell?_setCell_far _ _ _ _ hne2]; assumption))))) ((first | (go_at_call 131; refine (HAt.out _).mono ?_; rintro e w' ⟨rfl, rfl⟩) | (go_at_call 28; refine (rnumber_any r q W.drew Rj.1).mono ?_; rw [HBT.out]; rintro e w7 ⟨rfl, hS7⟩; have f7 := ((LFj.drewN 1).rd hS7 (by omega)).cell 0; have LB7 := (LBj.drewN 1).rd hS7 (by omega); have b7 := LB7.cell 0; have b7' := LB7.cell 1; have LX7 := (LXj.drewN 1).rd hS7 (by omega); have x7 := LX7.cell 4; have z7 := LX7.free 4; simp [insCells] at f7 b7 b7' x7)))
              have S8 := ((Rj.drewN 1).then hS7).set LX7 (by decide) (by decide) (by omega) 4 (.int .i64 bt)
              have LX8 := LX7.set 4 (.int .i64 bt)
              have LB8 := LB7.other (a := ⟨w1.heap.size, 4, none⟩) (by show w.heap.size ≠ w1.heap.size; omega) (.int .i64 bt)
              have LR8 := ((LRj.drewN 1).rd hS7 (by omega)).other (a := ⟨w1.heap.size, 4, none⟩) (by show w.heap.size + 1 ≠ w1.heap.size; omega) (.int .i64 bt)
              have hput := insCells_put x .many bt
              simp only [Fld.idx] at hput
              rw [← hput] at LX8
              clear hput LX7 LB7 f7 x7 z7 LXj LBj LRj LFj Rj bj0 fj0 hS7
              go_wp2_with fail
              refine (sure_any r q2 all _ S8.1).mono ?_; rintro e w9 ⟨rfl, hS9⟩
              have S9 := S8.then hS9
              have LX9 := LX8.rd hS9 (by omega)
              have LB9 := LB8.rd hS9 (by omega)
              have LR9 := LR8.rd hS9 (by omega)
              by_cases hq2 : q2.err = 0
              · have hst2 := HST.out
                rw [if_neg (by simp [hq2])] at hst2
                have HST2 := Lib.hid hst2
                simp only [if_pos hq2]
                have HQ2 := Lib.hid hq2
                clear hq2 hst2
                go_wp2
                go_roundw
                case rel => exact ⟨j + 1, _, q2, by omega, by go_num, S9, HQ2.out, (Fld.put_op x .many bt).trans hxo, HST2.out, LX9, LB9, LR9⟩
                case measure => simp [intOf]; omega
              · have hr := HRI2.out
                have hst2 := HST.out
                rw [if_pos hq2] at hst2
                rw [hst2] at hr
                unfold readRest at hr
                simp only at hr
                rw [if_pos hq2] at hr
                obtain ⟨hri1, rfl⟩ := Prod.mk.inj hr
                obtain ⟨rfl, rfl⟩ := Prod.mk.inj hri1
                simp only [if_neg hq2]
                have HN := Lib.hid hq2
                clear hq2 hst2 hr hri1
                go_wp2
                first | exact ⟨rfl, (if_neg HN.out).symm, S9⟩ | exact ⟨rfl, rfl, S9⟩
            case skip =>
              simp only [Fld.atFn, Fld.idx] at c0 LXj LBj LRj LFj Rj bj0 HAt
              go_wp2_with fail
              generalize hW : World.alloc wi _ = W at *
              have fj0 := LFj.cell 0
              simp at fj0
              go_region_held3 (fun V => V.cell? ⟨wi.heap.size, 0, none⟩ = some (.func (.func 127) #[] #[]) ∧ V.cell? ⟨w.heap.size, 0, none⟩ = some (.pointer (some ⟨r, 0, none⟩))) ((first | (constructor <;> assumption) | (constructor <;> (first | (rw [World.cell?_setCell_far _ _ _ _ hne1]; assumption) | (rw [World.cell?_setCell_far _ _ _ _ hne2]; assumption))))) ((first | (go_at_call 127; refine (HAt.out _).mono ?_; rintro e w' ⟨rfl, rfl⟩) | (go_at_call 28; refine (rnumber_any r q W.drew Rj.1).mono ?_; rw [HBT.out]; rintro e w7 ⟨rfl, hS7⟩; have f7 := ((LFj.drewN 1).rd hS7 (by omega)).cell 0; have LB7 := (LBj.drewN 1).rd hS7 (by omega); have b7 := LB7.cell 0; have b7' := LB7.cell 1; have LX7 := (LXj.drewN 1).rd hS7 (by omega); have x7 := LX7.cell 1; have z7 := LX7.free 1; simp [insCells] at f7 b7 b7' x7)))
              have S8 := ((Rj.drewN 1).then hS7).set LX7 (by decide) (by decide) (by omega) 1 (.int .i64 bt)
              have LX8 := LX7.set 1 (.int .i64 bt)
              have LB8 := LB7.other (a := ⟨w1.heap.size, 1, none⟩) (by show w.heap.size ≠ w1.heap.size; omega) (.int .i64 bt)
              have LR8 := ((LRj.drewN 1).rd hS7 (by omega)).other (a := ⟨w1.heap.size, 1, none⟩) (by show w.heap.size + 1 ≠ w1.heap.size; omega) (.int .i64 bt)
              have hput := insCells_put x .skip bt
              simp only [Fld.idx] at hput
              rw [← hput] at LX8
              clear hput LX7 LB7 f7 x7 z7 LXj LBj LRj LFj Rj bj0 fj0 hS7
              go_wp2_with fail
              refine (sure_any r q2 all _ S8.1).mono ?_; rintro e w9 ⟨rfl, hS9⟩
              have S9 := S8.then hS9
              have LX9 := LX8.rd hS9 (by omega)
              have LB9 := LB8.rd hS9 (by omega)
              have LR9 := LR8.rd hS9 (by omega)
              by_cases hq2 : q2.err = 0
              · have hst2 := HST.out
                rw [if_neg (by simp [hq2])] at hst2
                have HST2 := Lib.hid hst2
                simp only [if_pos hq2]
                have HQ2 := Lib.hid hq2
                clear hq2 hst2
                go_wp2
                go_roundw
                case rel => exact ⟨j + 1, _, q2, by omega, by go_num, S9, HQ2.out, (Fld.put_op x .skip bt).trans hxo, HST2.out, LX9, LB9, LR9⟩
                case measure => simp [intOf]; omega
              · have hr := HRI2.out
                have hst2 := HST.out
                rw [if_pos hq2] at hst2
                rw [hst2] at hr
                unfold readRest at hr
                simp only at hr
                rw [if_pos hq2] at hr
                obtain ⟨hri1, rfl⟩ := Prod.mk.inj hr
                obtain ⟨rfl, rfl⟩ := Prod.mk.inj hri1
                simp only [if_neg hq2]
                have HN := Lib.hid hq2
                clear hq2 hst2 hr hri1
                go_wp2
                first | exact ⟨rfl, (if_neg HN.out).symm, S9⟩ | exact ⟨rfl, rfl, S9⟩
        · obtain rfl : j = L := by omega
          have hrf := HRF.out
          rw [HL.out, List.drop_length, readFlds] at hrf
          have hri := HRI2.out
          rw [hrf] at hri
          have t1 := (HB _ _ R4 (o * 2 + 1)).trans y1
          have x0 := LX4.cell 0
          simp [insCells] at x0
          rw [hxo] at x0
          have HRI3 := Lib.hid hri
          have hlti := LX4.lt
          have hlti2 := LR4.lt
          clear hri hrf HRF HQ HRI2 y1
          go_wp2
          go_quiet (fail)
          cases v with
          | true =>
            have hri := HRI3.out
            unfold readRest at hri
            simp only at hri
            rw [if_neg (by simp), if_pos HV.out.symm] at hri
            have HRI4 := Lib.hid hri
            have b0 := LB4.cell 0; have b1 := LB4.cell 1
            simp at b0 b1
            clear hri HRI3
            obtain ⟨bs, q2, htx⟩ : ∃ bs q2, q.text all = (bs, q2) := ⟨_, _, rfl⟩
            rw [htx] at HRI4
            simp only at HRI4
            have HTX := Lib.hid htx
            clear htx
            go_wp2_with fail
            refine (rtext_any r q all (by omega) (by omega) _ (R4.drewN nq).1).mono ?_; rw [HTX.out]; rintro e w7 ⟨rfl, hS7⟩
            have S7 := (R4.drewN nq).then hS7
            have LX7 := (LX4.drewN nq).rd hS7 (by omega)
            have LB7 := (LB4.drewN nq).rd hS7 (by omega)
            have LR7 := (LR4.drewN nq).rd hS7 (by omega)
            have b0' := LB7.cell 0; have b1' := LB7.cell 1
            simp at b0' b1'
            clear b0 b1 t1 x0 hS7
            go_wp2_with fail
            refine (sure_any r q2 all _ S7.1).mono ?_; rintro e w8 ⟨rfl, hS8⟩
            have S8 := S7.then hS8
            have LX8 := LX7.rd hS8 (by omega)
            have LB8 := LB7.rd hS8 (by omega)
            have LR8 := LR7.rd hS8 (by omega)
            clear b0' b1' hS8 LX7 LB7 LR7
            by_cases hq2 : q2.err = 0
            · have hri := HRI4.out
              rw [if_neg (by simp [hq2])] at hri
              simp only [if_pos hq2]
              have HRI5 := Lib.hid hri
              have HQ2 := Lib.hid hq2
              have hbsl : bs.length ≤ 140737488355328 := by
                have := text_len q all
                rw [HTX.out] at this
                have hd := R4.1
                obtain ⟨_, _, _, _, h5⟩ := hd
                simp only at this
                omega
              obtain ⟨V, e2, hdd⟩ : ∃ V e2, datumDecode bs = (V, e2) := ⟨_, _, rfl⟩
              rw [hdd] at HRI5
              have HDD := Lib.hid hdd
              have htb := run_toBytes (P := Tryz.prog) 9 33 5 (ofBs bs) Tryz.underlying9 Tryz.underlying33 Tryz.underlying5
              clear hq2 hri HRI4 hdd
              go_wp2_with fail
              have hrs := (Row.str w8 (ofBs bs) (grownCap w8 (ofBs bs).size 0 5) 5)
              rw [show (ofBs bs).data.toList = bs from ofBs_data bs] at hrs
              refine (ddecode_any _ _ _ bs _ hrs.drew (by rw [← size_data, ofBs_data]) (fun h => by simp at h) (by rw [← size_data, ofBs_data]; exact hbsl)).mono ?_; rw [HDD.out]; rintro e w9 ⟨rfl, hb9⟩
              have hb9' : Below w8.heap.size w8 w9 := below_then (((Below.refl w8.heap.size w8).alloc (Nat.le_refl _) _).drew) hb9 (by simp)
              have S9 := S8.below hb9'
              have LX9 := LX8.below hb9' LX8.lt
              have LR9 := LR8.below hb9' LR8.lt
              have hlt9 := LX9.lt
              have hlt9' := LR9.lt
              clear hb9 hb9' hrs S8 S7 R4 LX8 LB8 LR8 LX4 LB4 LR4 htb
              by_cases he2 : e2 = 0
              · subst he2
                have hri := HRI5.out
                rw [if_neg (by simp)] at hri
                obtain ⟨hri1, rfl⟩ := Prod.mk.inj hri
                obtain ⟨rfl, rfl⟩ := Prod.mk.inj hri1
                clear hri hri1 HRI5
                have e0 := LX9.cell 0; have e1 := LX9.cell 1; have e2 := LX9.cell 2; have e3 := LX9.cell 3; have e4 := LX9.cell 4; have e5 := LX9.cell 5; have e6 := LX9.cell 6; have e7 := LX9.cell 7
                simp [insCells, hxo] at e0 e1 e2 e3 e4 e5 e6 e7
                have h5 := LX9.free 5; have h6 := LX9.free 6; have h7 := LX9.free 7
                have r0 := LR9.cell 0; have r1 := LR9.cell 1; have r2 := LR9.cell 2; have r3 := LR9.cell 3; have r4 := LR9.cell 4; have r5 := LR9.cell 5; have r6 := LR9.cell 6; have r7 := LR9.cell 7
                simp at r0 r1 r2 r3 r4 r5 r6 r7
                have f0 := LR9.free 0; have f1 := LR9.free 1; have f2 := LR9.free 2; have f3 := LR9.free 3; have f4 := LR9.free 4; have f5 := LR9.free 5; have f6 := LR9.free 6; have f7 := LR9.free 7
                have hd1 : (w1.heap.size : Nat) ≠ w.heap.size + 1 := by omega
                have hd2 : w.heap.size + 1 ≠ (w1.heap.size : Nat) := by omega
                have hd3 : (w1.heap.size : Nat) ≠ w9.heap.size := by omega
                have hd4 : w.heap.size + 1 ≠ (w9.heap.size : Nat) := by omega
                unfold valCells
                go_wp2
                have SA := S9.set LX9 (by decide) (by decide) (by omega) 5 (.int .i64 V.kind)
                have LA := LX9.set 5 (.int .i64 V.kind)
                have SB := SA.set LA (by decide) (by decide) (by omega) 6 (.int .i64 V.num)
                have LB := LA.set 6 (.int .i64 V.num)
                have SC := SB.set LB (by decide) (by decide) (by omega) 7 (.string V.text)
                have LRC := ((LR9.other (a := ⟨w1.heap.size, 5, none⟩) hd2 (.int .i64 V.kind)).other (a := ⟨w1.heap.size, 6, none⟩) hd2 (.int .i64 V.num)).other (a := ⟨w1.heap.size, 7, none⟩) hd2 (.string V.text)
                have hfin := ret_ins SC LRC (by omega) ⟨(o : Int), x.a, x.b, x.c, x.n, V⟩
                have hfa := hfin.2.alloc (.cells #[.int .i64 V.kind, .int .i64 V.num, .string V.text] 60)
                have g0 := hfa.cell 0; have g1 := hfa.cell 1; have g2 := hfa.cell 2; have g3 := hfa.cell 3; have g4 := hfa.cell 4; have g5 := hfa.cell 5; have g6 := hfa.cell 6; have g7 := hfa.cell 7
                simp only [insCells, List.getElem?_toArray, List.getElem?_cons_zero, List.getElem?_cons_succ] at g0 g1 g2 g3 g4 g5 g6 g7
                exact bodyPost_ret (v := .agg (insCells ⟨(o : Int), x.a, x.b, x.c, x.n, V⟩)) (by simp only [results, Tryz.results120]; simp [go_sem, g0, g1, g2, g3, g4, g5, g6, g7, insCells]) rfl ⟨rfl, hfin.1.alloc _⟩
              · have hri := HRI5.out
                rw [if_pos he2] at hri
                obtain ⟨hri1, rfl⟩ := Prod.mk.inj hri
                obtain ⟨rfl, rfl⟩ := Prod.mk.inj hri1
                have HN := Lib.hid he2
                have ht : (E != 0) = true := by simp [he2]
                clear he2 hri hri1 HRI5
                unfold valCells
                go_wp2
                first | exact ⟨rfl, (if_neg HN.out).symm, S9.alloc _⟩ | exact ⟨rfl, rfl, S9.alloc _⟩
            · have hri := HRI4.out
              rw [if_pos hq2] at hri
              obtain ⟨hri1, rfl⟩ := Prod.mk.inj hri
              obtain ⟨rfl, rfl⟩ := Prod.mk.inj hri1
              simp only [if_neg hq2]
              have HN := Lib.hid hq2
              clear hq2 hri hri1 HRI4
              go_wp2
              first | exact ⟨rfl, (if_neg HN.out).symm, S8⟩ | exact ⟨rfl, rfl, S8⟩
          | false =>
            have hri := HRI3.out
            unfold readRest at hri
            simp only at hri
            rw [if_neg (by simp), if_neg (by rw [← HV.out]; simp)] at hri
            obtain ⟨hri1, rfl⟩ := Prod.mk.inj hri
            obtain ⟨rfl, rfl⟩ := Prod.mk.inj hri1
            clear hri hri1 HRI3
            have e0 := LX4.cell 0; have e1 := LX4.cell 1; have e2 := LX4.cell 2; have e3 := LX4.cell 3; have e4 := LX4.cell 4; have e5 := LX4.cell 5; have e6 := LX4.cell 6; have e7 := LX4.cell 7
            simp [insCells] at e0 e1 e2 e3 e4 e5 e6 e7
            have r0 := LR4.cell 0; have r1 := LR4.cell 1; have r2 := LR4.cell 2; have r3 := LR4.cell 3; have r4 := LR4.cell 4; have r5 := LR4.cell 5; have r6 := LR4.cell 6; have r7 := LR4.cell 7
            simp at r0 r1 r2 r3 r4 r5 r6 r7
            have f0 := LR4.free 0; have f1 := LR4.free 1; have f2 := LR4.free 2; have f3 := LR4.free 3; have f4 := LR4.free 4; have f5 := LR4.free 5; have f6 := LR4.free 6; have f7 := LR4.free 7
            go_wp2
            have hfin := ret_ins (R4.drewN nq) (LR4.drewN nq) (by omega) X
            rw [hxo] at hfin
            have g0 := hfin.2.cell 0; have g1 := hfin.2.cell 1; have g2 := hfin.2.cell 2; have g3 := hfin.2.cell 3; have g4 := hfin.2.cell 4; have g5 := hfin.2.cell 5; have g6 := hfin.2.cell 6; have g7 := hfin.2.cell 7
            simp only [insCells, List.getElem?_toArray, List.getElem?_cons_zero, List.getElem?_cons_succ] at g0 g1 g2 g3 g4 g5 g6 g7
            exact bodyPost_ret (v := .agg (insCells X)) (by simp [results, Tryz.results120, go_sem, g0, g1, g2, g3, g4, g5, g6, g7, insCells, hxo]) rfl ⟨rfl, hfin.1⟩
  · have hri := HRI.out
    rw [if_pos (by simp [he])] at hri
    obtain ⟨hri1, rfl⟩ := Prod.mk.inj hri
    obtain ⟨rfl, rfl⟩ := Prod.mk.inj hri1
    simp only [if_neg he]
    have HE := Lib.hid he
    clear he hri hri1
    go_wp2
    exact ⟨rfl, rfl, R3⟩
end Go.Proofs.YtnieminnnkbneaaGreat
