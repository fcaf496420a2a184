/- Lemmas of this place that no law has for its own. -/
import Derived.Deep.RegionHeld3
import Derived.Test.YtnieminnnkbneaaGreatProc2
import Derived.Test.YtnieminnnkbneaaGreatProc4
import Derived.Test.YtnieminnnkbneaaGreatProc7
namespace Go.Proofs.YtnieminnnkbneaaGreat
open Go.RowKit

theorem Row.cellB {w : World} {A : Option Addr} {xs : Bs} (h : Row w A (cellsB xs)) (hp : 0 < xs.length) : ∃ b off, A = some ⟨b, off, none⟩ ∧ ∀ i (hi : i < xs.length), w.cell? ⟨b, off + i, none⟩ = some (.int .u8 (xs[i]).toNat) := by
 obtain ⟨b, off, hA, _, hc⟩ := h.at (by rw [cellsB_length]; exact hp)
 refine ⟨b, off, hA, fun i hi => ?_⟩
 rw [hc i (by rw [cellsB_length]; exact hi)]
 simp [cellsB, hi]

set_option maxHeartbeats 1000000 in
theorem same_any (A B : Option Addr) (n m ca cb : Nat) (xs ys : Bs) (w : World) (ha : Row w A (cellsB xs)) (hb : Row w B (cellsB ys)) (hn : n = xs.length) (hm : m = ys.length) (hln : n ≤ 140737488355328) (hlm : m ≤ 140737488355328) :
  Calls Tryz.prog 14 #[.slice A n ca, .slice B m cb] w fun e w' => e = .returned (.bool (decide (xs = ys))) ∧ Below w.heap.size w w' := by
 obtain ⟨res, hres⟩ : ∃ res, res = decide (xs = ys) := ⟨_, rfl⟩
 rw [← hres]
 have HRES := Lib.hid hres
 have HA := Lib.hid ha
 have HB := Lib.hid hb
 have HN := Lib.hid hn
 have HM := Lib.hid hm
 clear hres ha hb hn hm
 go_enter Tryz.func14, Tryz.ntmps14
 by_cases hnm : n = m
 ·subst hnm
  go_wp2
  go_loopw [5] (fun i wr => ∃ k : Nat, k ≤ n ∧ i = .int .i64 k ∧ (∃ d, wr = w.drewN d) ∧ xs.take k = ys.take k) (fun i _ => n - (intOf i).toNat)
  case atStart => exact ⟨0, Nat.zero_le _, rfl, ⟨0, rfl⟩, rfl⟩
  case round =>
   obtain ⟨wi, rfl⟩ : ∃ wi, wi = wr := ⟨_, rfl⟩
   obtain ⟨k, hk, rfl, ⟨d, rfl⟩, htk⟩ := hrel
   have HTK := Lib.hid htk
   clear htk
   by_cases hkn : k < n
   ·have hkx : k < xs.length := by rw [← HN.out]; exact hkn
    have hky : k < ys.length := by rw [← HM.out]; exact hkn
    obtain ⟨b, off, rfl, hc⟩ := HA.out.cellB (by omega)
    obtain ⟨b', off', rfl, hc'⟩ := HB.out.cellB (by omega)
    have x0 := hc k hkx
    have y0 := hc' k hky
    have hx1 : xs.take (k + 1) = xs.take k ++ [xs[k]] := List.take_succ_eq_append_getElem hkx
    have hy1 : ys.take (k + 1) = ys.take k ++ [ys[k]] := List.take_succ_eq_append_getElem hky
    have hne : xs[k] ≠ ys[k] → xs ≠ ys := fun h e => h (by subst e; rfl)
    generalize xs[k] = bx at *
    generalize ys[k] = by' at *
    have hkn' : (k : Int) < (n : Int) := by omega
    have HX := Lib.hid hx1
    have HY := Lib.hid hy1
    have HNE := Lib.hid hne
    clear hc hc' hx1 hy1 hne
    by_cases he : bx = by'
    ·subst he
     go_wp2
     go_quiet (fail)
     go_wp2
     go_roundw
     case rel => exact ⟨k + 1, by omega, by go_num, ⟨_, rfl⟩, by rw [HX.out, HY.out, HTK.out]⟩
     case measure => simp [intOf]; omega
    ·have ht : ((bx.toNat : Int) != (by'.toNat : Int)) = true := by
      simp only [bne_iff_ne, ne_eq, Int.natCast_inj]
      exact fun h => he (UInt8.toNat_inj.1 h)
     have HE := Lib.hid he
     clear he
     go_wp2
     go_quiet (fail)
     go_wp2
     go_ret
     refine ⟨?_, below_drewN (below_drewN (Below.refl _ _) _) _⟩
     rw [HRES.out]
     simp [HNE.out HE.out]
   ·obtain rfl : k = n := by omega
    go_wp2
    go_ret
    refine ⟨?_, below_drewN (Below.refl _ _) _⟩
    rw [HRES.out]
    have h := HTK.out
    rw [List.take_of_length_le (by rw [← HN.out]; exact Nat.le_refl _), List.take_of_length_le (by rw [← HM.out]; exact Nat.le_refl _)] at h
    simp [h]
 ·have hne : xs ≠ ys := fun h => hnm (by rw [HN.out, HM.out, h])
  have HNE := Lib.hid hne
  clear hne
  go_wp2
  go_ret
  refine ⟨?_, Below.refl _ _⟩
  rw [HRES.out]
  simp [HNE.out]

theorem ba_eq {a b : ByteArray} : a.toList = b.toList ↔ a = b := by
 constructor
 ·intro h
  rw [ByteArray.toList_eq, ByteArray.toList_eq] at h
  cases a; cases b
  congr
  exact Array.toList_inj.1 h
 ·intro h; rw [h]

theorem Val.eqv_iff (x y : Val) : x.eqv y = true ↔ x = y := by
 cases x; cases y
 simp [Val.eqv, ba_eq]

theorem Ins.eqv_iff (x y : Ins) : x.eqv y = true ↔ x = y := by
 cases x; cases y
 simp [Ins.eqv, Val.eqv_iff]

/-- The cells of one instruction of a row. -/
theorem Row.ins {w : World} {A : Option Addr} {l : List Ins} (h : Row w A (codeCells l)) (hp : 0 < l.length) : ∃ b off, A = some ⟨b, off, none⟩ ∧ ∀ j (hj : j < l.length), ∀ i, i < 8 → w.cell? ⟨b, off + j * 8 + i, none⟩ = (insCells l[j])[i]? := by
 obtain ⟨b, off, hA, _, hc⟩ := h.at (by rw [codeCells_length]; omega)
 refine ⟨b, off, hA, fun j hj i hi => ?_⟩
 rw [Nat.add_assoc, hc _ (by rw [codeCells_length]; omega), codeCells_get l j hj i hi]

/-- Two structs compared, as one step of a quiet walk. -/
theorem quiet_neq {P : Program} {C : World → Prop} {a : Act} {o : Oper} {K : Act → Prop} (x y : Operand) (t t' : TypeId) (ho : o.op = .binOp .neq t x y t') (b : Bool) (cx cy : Array Value) (hx : a.eval x = .agg cx) (hy : a.eval y = .agg cy)
  (h : ∀ w, (Op.equal t (.agg cx) (.agg cy)).run P w = .ok b w) (hg : ∀ w, (eqGuard .neq t x y (.agg cx) (.agg cy)).run P w = .ok () w) (hk : K (a.put o.dst (.bool (!b)))) : o.quiet P a C K := by
 refine ⟨.bool (!b), fun w _ => ?_, hk⟩
 unfold Oper.quietAt
 have : (execOp a.eval o).run P w = .ok (.value (.bool (!b))) w := by
  unfold execOp
  simp [ho, hx, hy, Go.binOp]
  rw [hg w]
  simp [h w]
 rw [this]
 exact ⟨rfl, rfl⟩

set_option maxHeartbeats 2000000 in
theorem refSame_any (p q : Prc) (A B : Option Addr) (ca cb : Nat) (w : World) (ha : Row w A (codeCells p.code)) (hb : Row w B (codeCells q.code)) (hla : p.code.length ≤ 140737488355328) (hlb : q.code.length ≤ 140737488355328) :
  Calls Tryz.prog 71 #[.agg (procCells p.name p.args A p.code.length ca), .agg (procCells q.name q.args B q.code.length cb)] w fun e w' => (∃ res, e = .returned (.bool res) ∧ (res = true ↔ p = q)) ∧ Below w.heap.size w w' := by
 obtain ⟨pn, pa, pl⟩ := p
 obtain ⟨qn, qa, ql⟩ := q
 simp only at *
 have HA := Lib.hid ha
 have HB := Lib.hid hb
 obtain ⟨N, hN⟩ : ∃ N, N = pl.length := ⟨_, rfl⟩
 obtain ⟨M, hM⟩ : ∃ M, M = ql.length := ⟨_, rfl⟩
 rw [← hN] at hla ⊢
 rw [← hM] at hlb ⊢
 have HN := Lib.hid hN
 have HM := Lib.hid hM
 clear ha hb hN hM
 unfold procCells
 go_enter Tryz.func71, Tryz.ntmps71
 have b0 : Below w.heap.size w ((w.alloc (.cells #[.string pn, .int .i64 pa, .slice A N ca] 54)).alloc (.cells #[.string qn, .int .i64 qa, .slice B M cb] 54)) :=
  ((Below.refl w.heap.size w).alloc (Nat.le_refl _) _).alloc (by simp) _
 by_cases h1 : pn = qn
 ·by_cases h2 : pa = qa
  ·by_cases h3 : N = M
   ·subst h1 h2 h3
    go_wp2
    go_loopw [5] (fun i wr => ∃ k : Nat, k ≤ N ∧ i = .int .i64 k ∧ (∃ d, wr = (((w.alloc (.cells #[.string pn, .int .i64 pa, .slice A N ca] 54)).alloc (.cells #[.string pn, .int .i64 pa, .slice B N cb] 54)).drewN d)) ∧ pl.take k = ql.take k) (fun i _ => N - (intOf i).toNat)
    case atStart => exact ⟨0, Nat.zero_le _, rfl, ⟨0, rfl⟩, rfl⟩
    case round =>
     obtain ⟨wi, rfl⟩ : ∃ wi, wi = wr := ⟨_, rfl⟩
     obtain ⟨k, hk, rfl, ⟨d, rfl⟩, htk⟩ := hrel
     have HTK := Lib.hid htk
     clear htk
     by_cases hkn : k < N
     ·have hkp : k < pl.length := by rw [← HN.out]; exact hkn
      have hkq : k < ql.length := by rw [← HM.out]; exact hkn
      have RA := (HA.out.alloc (.cells #[.string pn, .int .i64 pa, .slice A N ca] 54)).alloc (.cells #[.string pn, .int .i64 pa, .slice B N cb] 54)
      have RB := (HB.out.alloc (.cells #[.string pn, .int .i64 pa, .slice A N ca] 54)).alloc (.cells #[.string pn, .int .i64 pa, .slice B N cb] 54)
      obtain ⟨b, off, rfl, hc⟩ := RA.ins (by omega)
      obtain ⟨b', off', rfl, hc'⟩ := RB.ins (by omega)
      have hx1 : pl.take (k + 1) = pl.take k ++ [pl[k]] := List.take_succ_eq_append_getElem hkp
      have hy1 : ql.take (k + 1) = ql.take k ++ [ql[k]] := List.take_succ_eq_append_getElem hkq
      have hne : pl[k] ≠ ql[k] → pl ≠ ql := fun h e => h (by subst e; rfl)
      have hcx := hc k hkp
      have hcy := hc' k hkq
      generalize pl[k] = X at *
      generalize ql[k] = Y at *
      have hq := fun W => eqInIns 9997 X Y W
      obtain ⟨res, hres⟩ : ∃ res, res = X.eqv Y := ⟨_, rfl⟩
      rw [← hres] at hq
      have hiff := Ins.eqv_iff X Y
      rw [← hres] at hiff
      obtain ⟨xo, xa, xb, xc, xn, xv⟩ := X
      obtain ⟨yo, ya, yb, yc, yn, yv⟩ := Y
      have x0 := hcx 0 (by decide); have x1 := hcx 1 (by decide); have x2 := hcx 2 (by decide); have x3 := hcx 3 (by decide); have x4 := hcx 4 (by decide); have x5 := hcx 5 (by decide); have x6 := hcx 6 (by decide); have x7 := hcx 7 (by decide)
      have y0 := hcy 0 (by decide); have y1 := hcy 1 (by decide); have y2 := hcy 2 (by decide); have y3 := hcy 3 (by decide); have y4 := hcy 4 (by decide); have y5 := hcy 5 (by decide); have y6 := hcy 6 (by decide); have y7 := hcy 7 (by decide)
      simp only [insCells, List.getElem?_toArray, List.getElem?_cons_zero, List.getElem?_cons_succ, Nat.add_zero] at x0 x1 x2 x3 x4 x5 x6 x7 y0 y1 y2 y3 y4 y5 y6 y7 hq
      have hkn' : (k : Int) < (N : Int) := by omega
      have HX := Lib.hid hx1
      have HY := Lib.hid hy1
      have HNE := Lib.hid hne
      have HIFF := Lib.hid hiff
      clear hc hc' hx1 hy1 hne hcx hcy hiff hres RA RB
      have hq2 : ∀ W, (Op.equal 109 (.agg #[.int .i64 xo, .int .i64 xa, .int .i64 xb, .int .i64 xc, .int .i64 xn, .int .i64 xv.kind, .int .i64 xv.num, .string xv.text]) (.agg #[.int .i64 yo, .int .i64 ya, .int .i64 yb, .int .i64 yc, .int .i64 yn, .int .i64 yv.kind, .int .i64 yv.num, .string yv.text])).run Tryz.prog W = .ok res W := hq
      clear hq
      cases res with
      | true =>
       go_wp2
       refine wp_region_quiet_lit (by kernel_rfl) (by kernel_rfl) ?_
       repeat (quiet_step (fail))
       refine wpQuiet_step (fun K hK => ?_)
       rw [if_pos (by rfl)]
       refine quiet_neq _ _ _ _ rfl true _ _ rfl rfl hq2 (fun w => by kernel_rfl) ?_
       refine hK _ ?_
       clear hK K
       refine wpQuiet_nil ?_
       intro _ hw'
       obtain ⟨nq, hw''⟩ := hw'
       subst hw''
       simp only [Act.put, List.setIfInBounds_toArray, List.set_cons_zero, List.set_cons_succ, Bool.not_true]
       go_wp2
       go_roundw
       case rel => exact ⟨k + 1, by omega, by go_num, ⟨_, rfl⟩, by rw [HX.out, HY.out, HTK.out, HIFF.out.1 (by simp)]⟩
       case measure => simp [intOf]; omega
      | false =>
       go_wp2
       refine wp_region_quiet_lit (by kernel_rfl) (by kernel_rfl) ?_
       repeat (quiet_step (fail))
       refine wpQuiet_step (fun K hK => ?_)
       rw [if_pos (by rfl)]
       refine quiet_neq _ _ _ _ rfl false _ _ rfl rfl hq2 (fun w => by kernel_rfl) ?_
       refine hK _ ?_
       clear hK K
       refine wpQuiet_nil ?_
       intro _ hw'
       obtain ⟨nq, hw''⟩ := hw'
       subst hw''
       simp only [Act.put, List.setIfInBounds_toArray, List.set_cons_zero, List.set_cons_succ, Bool.not_false]
       go_wp2
       go_ret
       refine ⟨⟨false, rfl, ?_⟩, below_drewN (below_drewN b0 _) _⟩
       have hxy := HNE.out (fun h => by have := HIFF.out.2 h; simp at this)
       simp [hxy]
     ·obtain rfl : k = N := by omega
      go_wp2
      go_ret
      refine ⟨⟨true, rfl, ?_⟩, below_drewN b0 _⟩
      have h := HTK.out
      rw [List.take_of_length_le (by rw [← HN.out]; exact Nat.le_refl _), List.take_of_length_le (by rw [← HM.out]; exact Nat.le_refl _)] at h
      simp [h]
   ·have hne : pl ≠ ql := fun h => h3 (by rw [HN.out, HM.out, h])
    have HNE := Lib.hid hne
    clear hne
    subst h1 h2
    go_wp2
    go_ret
    refine ⟨⟨false, rfl, ?_⟩, b0⟩
    simp [HNE.out]
  ·have HNE := Lib.hid h2
   subst h1
   go_wp2
   go_ret
   refine ⟨⟨false, rfl, ?_⟩, b0⟩
   simp [HNE.out]
 ·have h1' : ¬ pn.toList = qn.toList := fun h => h1 (ba_eq.1 h)
  have HNE := Lib.hid h1
  clear h1
  go_wp2
  go_ret
  refine ⟨⟨false, rfl, ?_⟩, b0⟩
  simp [HNE.out]

/-! ### the walk -/

theorem codeCells_append (a b : List Ins) : codeCells (a ++ b) = codeCells a ++ codeCells b := by simp [codeCells]

theorem insCells_one (x : Ins) : ∀ u ∈ (insCells x).toList, u.oneCell' = true := by simp [insCells, Value.oneCell']

theorem codeCells_cell (l : List Ins) : ∀ u ∈ codeCells l, u.oneCell' = true := by
 intro u hu
 obtain ⟨x, _, hx⟩ := List.mem_flatMap.1 hu
 exact insCells_one x u hx

theorem infoIns : (Tryz.prog.info? 109).map (fun i => (i.zero, i.size, i.bytes)) = some (some (.agg #[.int .i64 0, .int .i64 0, .int .i64 0, .int .i64 0, .int .i64 0, .int .i64 0, .int .i64 0, .string ⟨#[]⟩]), 8, 72) := by kernel_rfl

theorem Row.fore {w : World} {A : Option Addr} {cs ds : List Value} (h : Row w A (cs ++ ds)) : Row w A cs := by
 rcases h with h | ⟨b, off, rfl, h⟩
 ·exact .inl (List.append_eq_nil_iff.1 h).1
 ·refine .inr ⟨b, off, rfl, fun j hj => ?_⟩
  rw [h j (by rw [List.length_append]; omega), List.getElem?_append_left hj]

theorem Row.code {w : World} {A : Option Addr} {l m : List Ins} (h : Row w A (codeCells (l ++ m))) : Row w A (codeCells l) := by
 rw [codeCells_append] at h
 exact h.fore

/-- The world in which an instruction has been laid, cell by cell. -/
def putW (w : World) (g k : Nat) (x : Ins) : World :=
 (((((((w.setCell ⟨g, k * 8, none⟩ (.int .i64 x.op)).setCell ⟨g, k * 8 + 1, none⟩ (.int .i64 x.a)).setCell ⟨g, k * 8 + 2, none⟩ (.int .i64 x.b)).setCell ⟨g, k * 8 + 3, none⟩ (.int .i64 x.c)).setCell ⟨g, k * 8 + 4, none⟩ (.int .i64 x.n)).setCell ⟨g, k * 8 + 5, none⟩ (.int .i64 x.v.kind)).setCell ⟨g, k * 8 + 6, none⟩ (.int .i64 x.v.num)).setCell ⟨g, k * 8 + 7, none⟩ (.string x.v.text)

theorem owns_cap {w : World} {base : Nat} {e : TypeId} {size n g c : Nat} {xs : List Value} (h : w.ownsRow base e size (.slice (some ⟨g, 0, none⟩) n c) n xs) (hn : 0 < n) : n ≤ c ∧ base ≤ g ∧ g < w.heap.size := by
 obtain ⟨_, h⟩ := h
 rcases h with ⟨_, h⟩ | ⟨g', cap, cur, hv, hb, hg, h1, h2, h3, h4⟩
 ·omega
 ·cases hv
  exact ⟨h1, hb, blk_lt hg⟩

end Go.Proofs.YtnieminnnkbneaaGreat
