/- Walk of batch.Check. -/
import Derived.Test.YtnmcdifkknphgaaBc
import Derived.Deep.LoopGhost
import Derived.WalkMore
namespace Go.Proofs.Ytnmcdifkknphgaa
open Go.RowKit

def txnsCells (l : List TxnC) : List Value := l.flatMap fun x => x.cells.toList

theorem txnsCells_length (l : List TxnC) : (txnsCells l).length = l.length * 6 := by
  induction l with
  | nil => rfl
  | cons x l ih => simp [txnsCells, TxnC.cells] at ih ⊢; omega

theorem txnsCells_get (l : List TxnC) (k : Nat) (h : k < l.length) (j : Nat) (hj : j < 6) : (txnsCells l)[k * 6 + j]? = (l[k]).cells[j]? := by
  induction l generalizing k with
  | nil => simp at h
  | cons x l ih =>
    have hx : txnsCells (x :: l) = x.cells.toList ++ txnsCells l := rfl
    rw [hx]
    cases k with
    | zero =>
      rw [List.getElem?_append_left (by simp [TxnC.cells]; omega)]
      simp
    | succ k =>
      rw [List.getElem?_append_right (by simp [TxnC.cells]; omega)]
      have h1 : (k + 1) * 6 + j - x.cells.toList.length = k * 6 + j := by simp [TxnC.cells]; omega
      rw [h1, ih k (by simpa using h)]
      rfl

theorem Row.txns {w : World} {A : Option Addr} {l : List TxnC} (h : Row w A (txnsCells l)) (hp : 0 < l.length) : ∃ b off, A = some ⟨b, off, none⟩ ∧ b < w.heap.size ∧ ∀ j (hj : j < l.length), ∀ i, i < 6 → w.cell? ⟨b, off + j * 6 + i, none⟩ = (l[j]).cells[i]? := by
  obtain ⟨b, off, hA, hlt, hc⟩ := h.at (by rw [txnsCells_length]; omega)
  refine ⟨b, off, hA, hlt, fun j hj i hi => ?_⟩
  rw [Nat.add_assoc, hc _ (by rw [txnsCells_length]; omega), txnsCells_get l j hj i hi]

theorem valsCells_length (l : List Val) : (valsCells l).length = l.length * 3 := by
  induction l with
  | nil => rfl
  | cons x l ih => simp [valsCells, valCells] at ih ⊢; omega

theorem valsCells_get (l : List Val) (k : Nat) (h : k < l.length) (j : Nat) (hj : j < 3) : (valsCells l)[k * 3 + j]? = (valCells l[k])[j]? := by
  induction l generalizing k with
  | nil => simp at h
  | cons x l ih =>
    have hx : valsCells (x :: l) = (valCells x).toList ++ valsCells l := rfl
    rw [hx]
    cases k with
    | zero =>
      rw [List.getElem?_append_left (by simp [valCells]; omega)]
      simp
    | succ k =>
      rw [List.getElem?_append_right (by simp [valCells]; omega)]
      have h1 : (k + 1) * 3 + j - (valCells x).toList.length = k * 3 + j := by simp [valCells]; omega
      rw [h1, ih k (by simpa using h)]
      rfl

theorem Row.vals {w : World} {A : Option Addr} {l : List Val} (h : Row w A (valsCells l)) (hp : 0 < l.length) : ∃ b off, A = some ⟨b, off, none⟩ ∧ b < w.heap.size ∧ ∀ j (hj : j < l.length), ∀ i, i < 3 → w.cell? ⟨b, off + j * 3 + i, none⟩ = (valCells l[j])[i]? := by
  obtain ⟨b, off, hA, hlt, hc⟩ := h.at (by rw [valsCells_length]; omega)
  refine ⟨b, off, hA, hlt, fun j hj i hi => ?_⟩
  rw [Nat.add_assoc, hc _ (by rw [valsCells_length]; omega), valsCells_get l j hj i hi]

/-- What a program may hold. -/
structure TxnC.fit (x : TxnC) : Prop where
  r : x.t.proc.inR
  c : x.t.proc.code.length ≤ 140737488355328
  a : x.t.args.length ≤ 140737488355328

/-- What a kind says by itself. -/
def ownCheck (t : Txn) : Int := if t.kind = 1 then defCheck t else if t.kind = 2 then callCheck t else dropCheck t

theorem txnCheck_own {t : Txn} (h : t.kind = 1 ∨ t.kind = 2 ∨ t.kind = 3) : txnCheck t = if ownCheck t ≠ 0 then ownCheck t else valsCheck t.args := by
  obtain ⟨k, p, nm, vs⟩ := t
  simp only at h
  rcases h with rfl | rfl | rfl
  · simp only [txnCheck, ownCheck, defCheck, if_true]
    by_cases hx : nm.size ≠ 0 ∨ 0 < vs.length
    · rw [if_pos hx]; simp
    · rw [if_neg hx]
      have hv : vs = [] := List.eq_nil_of_length_eq_zero (by omega)
      subst hv
      by_cases hp : (procCheck p).2 ≠ 0
      · rw [if_pos hp]
      · rw [if_neg hp]; simpa [valsCheck] using hp
  · simp only [txnCheck, ownCheck, callCheck]
    simp only [show ¬ (2 : Int) = 1 by decide, if_true, if_false]
    cases bareP p <;> simp
    cases isName nm <;> simp
    split
    · rename_i h16; simp; omega
    · rename_i h16; simp; omega
  · simp only [txnCheck, ownCheck, dropCheck]
    simp only [show ¬ (3 : Int) = 1 by decide, show ¬ (3 : Int) = 2 by decide, if_true, if_false]
    by_cases hx : 0 < vs.length ∨ bareP p = false
    · rw [if_pos hx]; simp
    · rw [if_neg hx]
      have hv : vs = [] := List.eq_nil_of_length_eq_zero (by omega)
      subst hv
      cases isName nm <;> simp [valsCheck]

theorem m_def (c : Array Value) : ∀ w, (method 296 73 (.agg c) "treadle/batch.check").run Try.prog w = .ok (119, .agg c) w := fun _ => by kernel_rfl
theorem m_call (c : Array Value) : ∀ w, (method 296 77 (.agg c) "treadle/batch.check").run Try.prog w = .ok (123, .agg c) w := fun _ => by kernel_rfl
theorem m_drop (c : Array Value) : ∀ w, (method 296 76 (.agg c) "treadle/batch.check").run Try.prog w = .ok (120, .agg c) w := fun _ => by kernel_rfl

set_option maxRecDepth 100000 in
set_option maxHeartbeats 2000000 in
theorem bcheck_any (first : Int) (l : List TxnC) (L : Option Addr) (cap : Nat) (w : World) (hr : Row w L (txnsCells l)) (hok : ∀ x ∈ l, x.ok w) (hfit : ∀ x ∈ l, x.fit) (hlen : l.length ≤ 140737488355328) (hf : i64R first) :
    Calls Try.prog 11 #[.agg #[.int .i64 first, .slice L l.length cap]] w fun e w' => e = .returned (.int .i64 (batCheck ⟨first, l.map (·.t)⟩)) ∧ Below w.heap.size w w' := by
  obtain ⟨r, hr0⟩ : ∃ r, r = batCheck ⟨first, l.map (·.t)⟩ := ⟨_, rfl⟩
  rw [← hr0]
  have hr1 : r = if first < 1 ∨ 281474976710655 < first ∨ l.length = 0 ∨ 64 < l.length then 1 else if 281474976710655 < first + l.length - 1 then 23 else txnsCheck (l.map (·.t)) := by
    rw [hr0]; unfold batCheck maxNumber; simp
  obtain ⟨n, hn⟩ : ∃ n, n = l.length := ⟨_, rfl⟩
  rw [← hn] at hr1 hlen ⊢
  have HR := Lib.hid hr1
  have HN := Lib.hid hn
  have HROW := Lib.hid hr
  have HOK := Lib.hid hok
  have HFIT := Lib.hid hfit
  obtain ⟨hf0, hf1⟩ := hf
  clear hr hok hfit hr1 hn hr0
  have b0 := (Below.refl w.heap.size w).alloc (Nat.le_refl _) (.cells #[.int .i64 first, .slice L n cap] 24)
  by_cases h1 : first < 1 ∨ 281474976710655 < first ∨ n = 0 ∨ 64 < n
  · have hres : r = 1 := by rw [HR.out, if_pos h1]
    have HRES := Lib.hid hres
    clear hres
    have hcs : first < 1 ∨ (¬ first < 1 ∧ 281474976710655 < first) ∨ (¬ first < 1 ∧ ¬ 281474976710655 < first ∧ ((n : Int) == 0) = true) ∨ (¬ first < 1 ∧ ¬ 281474976710655 < first ∧ ((n : Int) == 0) = false ∧ (64 : Int) < (n : Int)) := by
      by_cases g1 : first < 1
      · exact .inl g1
      by_cases g2 : 281474976710655 < first
      · exact .inr (.inl ⟨g1, g2⟩)
      by_cases g3 : n = 0
      · exact .inr (.inr (.inl ⟨g1, g2, by simp [g3]⟩))
      · exact .inr (.inr (.inr ⟨g1, g2, by simp [g3], by omega⟩))
    clear h1
    rcases hcs with g1 | ⟨g1, g2⟩ | ⟨g1, g2, g3⟩ | ⟨g1, g2, g3, g4⟩
    all_goals
      go_enter Try.func11, Try.ntmps11
      go_wp2
      go_step3
      go_wp2
      try rw [Exit.noGoto_ret]
      go_ret
      rw [HRES.out]
      exact ⟨rfl, b0⟩
  · have g1 : ¬ first < 1 := by omega
    have g2 : ¬ 281474976710655 < first := by omega
    have g3 : ((n : Int) == 0) = false := by simp; omega
    have g4 : ¬ (64 : Int) < (n : Int) := by omega
    by_cases h2 : 281474976710655 < first + n - 1
    · have hres : r = 23 := by rw [HR.out, if_neg h1, if_pos h2]
      have HRES := Lib.hid hres
      clear hres h1
      go_enter Try.func11, Try.ntmps11
      go_wp2
      go_step3
      go_wp2
      try rw [Exit.noGoto_ret]
      go_ret
      rw [HRES.out]
      exact ⟨rfl, b0⟩
    · have hres : r = txnsCheck (l.map (·.t)) := by rw [HR.out, if_neg h1, if_neg h2]
      have HRES := Lib.hid hres
      obtain ⟨b, off, rfl, hbl, hc⟩ := HROW.out.txns (by rw [← HN.out]; omega)
      have HC := Lib.hid hc
      have hn64 : n ≤ 64 := by omega
      clear hres h1 hc
      go_enter Try.func11, Try.ntmps11
      go_wp2
      go_step3
      go_wp2
      go_step3
      go_wp2
      go_loopg [3, 40] n (fun g s3 s40 wx => ∃ k : Nat, k + g = n ∧ s3 = .int .i64 0 ∧ s40 = .int .i64 k ∧ Hid (txnsCheck (l.map (·.t)) = txnsCheck ((l.map (·.t)).drop k)) ∧ Below w.heap.size w wx)
      case atStart => exact ⟨0, by omega, rfl, rfl, Lib.hid rfl, b0⟩
      case round =>
        obtain ⟨k, hkg, rfl, rfl, HT, bx⟩ := hrel
        obtain ⟨wo, rfl⟩ : ∃ wo, wo = wr := ⟨_, rfl⟩
        cases gk with
        | zero =>
          have hkz : ¬ ((k : Int) < (n : Int)) := by omega
          have hend : r = 0 := by rw [HRES.out, HT.out, List.drop_eq_nil_of_le (by rw [List.length_map, ← HN.out]; omega)]; rfl
          have HEND := Lib.hid hend
          clear hend
          go_wp2
          try rw [Exit.noGoto_ret]
          go_ret
          rw [HEND.out]
          exact ⟨rfl, bx⟩
        | succ go =>
          have hkn : k < n := by omega
          have hkl : k < l.length := by rw [← HN.out]; exact hkn
          have hx := HC.out k hkl
          have hok := HOK.out l[k] (List.getElem_mem hkl)
          have hfit := HFIT.out l[k] (List.getElem_mem hkl)
          have hstep : txnsCheck ((l.map (·.t)).drop k) = if txnCheck l[k].t ≠ 0 then txnCheck l[k].t else txnsCheck ((l.map (·.t)).drop (k + 1)) := by
            rw [List.drop_eq_getElem_cons (by simpa using hkl), txnsCheck]
            simp
          have HSTEP := Lib.hid hstep
          clear hstep
          generalize l[k] = x at *
          have hxi : ∀ i, i < 6 → wo.cell? ⟨b, off + k * 6 + i, none⟩ = x.cells[i]? := fun i hi => (bx.cell (p := ⟨b, off + k * 6 + i, none⟩) hbl).trans (hx i hi)
          have hkin := fun W => kindOf_any x W
          obtain ⟨⟨kk, p, nm, vs⟩, A, c, B, d⟩ := x
          have x0 := hxi 0 (by decide); have x1 := hxi 1 (by decide); have x2 := hxi 2 (by decide); have x3 := hxi 3 (by decide); have x4 := hxi 4 (by decide); have x5 := hxi 5 (by decide)
          simp only [TxnC.cells, List.getElem?_toArray, List.getElem?_cons_zero, List.getElem?_cons_succ, Nat.add_zero] at x0 x1 x2 x3 x4 x5
          have hkI : (k : Int) < (n : Int) := by omega
          unfold TxnC.cells at hkin
          simp only at hkin
          have HK := Lib.hid hkin
          have HX := Lib.hid hx
          clear hx hxi hkin
          have X1 := Loc.new wo #[.int .i64 kk, .string p.name, .int .i64 p.args, .slice B p.code.length d, .string nm, .slice A vs.length c] 30
          have b1 := bx.alloc bx.size (.cells #[.int .i64 kk, .string p.name, .int .i64 p.args, .slice B p.code.length d, .string nm, .slice A vs.length c] 30)
          go_wp2_with fail
          refine (HK.out _).mono ?_; rintro e w1 ⟨rfl, hb⟩
          have X2 := X1.below hb X1.lt
          have b2 := below_then b1 hb b1.size
          clear X1 b1 hb x0 x1 x2 x3 x4 x5
          by_cases k1 : kk = 1
          · subst k1
            have hkv : kindV ⟨⟨1, p, nm, vs⟩, A, c, B, d⟩ = .iface 73 (.agg #[.int .i64 1, .string p.name, .int .i64 p.args, .slice B p.code.length d, .string nm, .slice A vs.length c]) := rfl
            rw [hkv]
            have hm := m_def #[.int .i64 1, .string p.name, .int .i64 p.args, .slice B p.code.length d, .string nm, .slice A vs.length c]
            have hck := defcheck_any ⟨⟨1, p, nm, vs⟩, A, c, B, d⟩ w1 (hok.below b2) hfit.r hfit.c hfit.a
            have hto := txnCheck_own (t := ⟨1, p, nm, vs⟩) (by simp)
            have hown : ownCheck ⟨1, p, nm, vs⟩ = defCheck ⟨1, p, nm, vs⟩ := rfl
            rw [hown] at hto
            simp only at hck
            obtain ⟨C, hC⟩ : ∃ C, C = defCheck ⟨1, p, nm, vs⟩ := ⟨_, rfl⟩
            rw [← hC] at hck hto
            have HTO := Lib.hid hto
            unfold TxnC.cells at hck
            simp only at hck
            have HCK := Lib.hid hck
            clear hkv hck hC hown hto
            go_wp2_with fail
            refine HCK.out.mono ?_; rintro e w2 ⟨rfl, hb⟩
            have X3 := X2.below hb X2.lt
            have b3 := below_then b2 hb b2.size
            have c5 := X3.cell 5
            simp at c5
            clear hb X2 b2 HCK hm
            by_cases hC0 : C = 0
            · subst hC0
              have HV : Hid (txnCheck ⟨1, p, nm, vs⟩ = valsCheck vs) := Lib.hid (by rw [HTO.out]; simp)
              go_wp2
              go_loopg [3, 55] vs.length (fun g s3 s55 wy => ∃ j : Nat, j + g = vs.length ∧ s3 = .int .i64 0 ∧ s55 = .int .i64 j ∧ Hid (valsCheck vs = valsCheck (vs.drop j)) ∧ Below w.heap.size w wy)
              case atStart => exact ⟨0, by omega, rfl, rfl, Lib.hid rfl, b3⟩
              case round =>
                skip
                obtain ⟨j, hjg, rfl, rfl, HJ, by_⟩ := hrel
                cases gk with
                | zero =>
                  have hjz : ¬ ((j : Int) < (vs.length : Int)) := by omega
                  have hz : txnCheck ⟨1, p, nm, vs⟩ = 0 := by rw [HV.out, HJ.out, List.drop_eq_nil_of_le (by omega)]; rfl
                  have HT2 : Hid (txnsCheck (l.map (·.t)) = txnsCheck ((l.map (·.t)).drop (k + 1))) := Lib.hid (by rw [HT.out, HSTEP.out, hz]; simp)
                  clear hz
                  go_wp2
                  go_roundg go
                  case rel => exact ⟨k + 1, by omega, rfl, by go_num, HT2, by_⟩
                  case measure => omega
                | succ gk2 =>
                  have hjl : j < vs.length := by omega
                  have hav : vs.length ≤ 140737488355328 := hfit.a
                  obtain ⟨b2, off2, rfl, hb2l, hvc⟩ := hok.a.vals (show 0 < vs.length by omega)
                  have hv := hvc j hjl
                  have hvs : valsCheck (vs.drop j) = if datumCheck vs[j] ≠ 0 then datumCheck vs[j] else valsCheck (vs.drop (j + 1)) := by
                    rw [List.drop_eq_getElem_cons hjl, valsCheck]
                  simp only at hv
                  have hvi : ∀ i, i < 3 → wr.cell? ⟨b2, off2 + j * 3 + i, none⟩ = (valCells vs[j])[i]? := fun i hi => (by_.cell (p := ⟨b2, off2 + j * 3 + i, none⟩) hb2l).trans (hv i hi)
                  have hdc := fun W => dcheck_any vs[j] W
                  obtain ⟨E, hE⟩ : ∃ E, E = datumCheck vs[j] := ⟨_, rfl⟩
                  rw [← hE] at hdc hvs
                  have v0 := hvi 0 (by decide); have v1 := hvi 1 (by decide); have v2 := hvi 2 (by decide)
                  have HVS := Lib.hid hvs
                  generalize vs[j] = u at *
                  obtain ⟨uk, un, ut⟩ := u
                  simp only [valCells, List.getElem?_toArray, List.getElem?_cons_zero, List.getElem?_cons_succ, Nat.add_zero] at v0 v1 v2 hdc
                  have HDC := Lib.hid hdc
                  have hjI : (j : Int) < (vs.length : Int) := by omega
                  have b4 := by_.alloc by_.size (.cells #[.int .i64 uk, .int .i64 un, .string ut] 57)
                  clear hvs hv hvi hvc hdc hE
                  go_wp2_with fail
                  refine (HDC.out _).mono ?_; rintro e w5 ⟨rfl, hb⟩
                  have b5 := below_then b4 hb b4.size
                  clear hb b4 v0 v1 v2
                  by_cases hE0 : E = 0
                  · subst hE0
                    have HJ2 : Hid (valsCheck vs = valsCheck (vs.drop (j + 1))) := Lib.hid (by rw [HJ.out, HVS.out]; simp)
                    go_wp2
                    go_roundg gk2
                    case rel => exact ⟨j + 1, by omega, rfl, by go_num, HJ2, b5⟩
                    case measure => omega
                  · have hE' : (E != 0) = true := by simpa using hE0
                    have hres : r = E := by rw [HRES.out, HT.out, HSTEP.out, HV.out, HJ.out, HVS.out]; simp [hE0]
                    have HRE := Lib.hid hres
                    clear hE0 hres
                    go_wp2
                    try rw [Exit.noGoto_ret]
                    go_ret
                    rw [HRE.out]
                    exact ⟨rfl, b5⟩
            · have hC' : (C != 0) = true := by simpa using hC0
              have hres : r = C := by rw [HRES.out, HT.out, HSTEP.out, HTO.out]; simp [hC0]
              have HRC := Lib.hid hres
              clear hC0 hres
              go_wp2
              try rw [Exit.noGoto_ret]
              go_ret
              rw [HRC.out]
              exact ⟨rfl, b3⟩
          by_cases k2 : kk = 2
          · subst k2
            have hkv : kindV ⟨⟨2, p, nm, vs⟩, A, c, B, d⟩ = .iface 77 (.agg #[.int .i64 2, .string p.name, .int .i64 p.args, .slice B p.code.length d, .string nm, .slice A vs.length c]) := rfl
            rw [hkv]
            have hm := m_call #[.int .i64 2, .string p.name, .int .i64 p.args, .slice B p.code.length d, .string nm, .slice A vs.length c]
            have hck := callcheck_any ⟨⟨2, p, nm, vs⟩, A, c, B, d⟩ w1 hfit.a
            have hto := txnCheck_own (t := ⟨2, p, nm, vs⟩) (by simp)
            have hown : ownCheck ⟨2, p, nm, vs⟩ = callCheck ⟨2, p, nm, vs⟩ := rfl
            rw [hown] at hto
            simp only at hck
            obtain ⟨C, hC⟩ : ∃ C, C = callCheck ⟨2, p, nm, vs⟩ := ⟨_, rfl⟩
            rw [← hC] at hck hto
            have HTO := Lib.hid hto
            unfold TxnC.cells at hck
            simp only at hck
            have HCK := Lib.hid hck
            clear hkv hck hC hown hto
            go_wp2_with fail
            refine HCK.out.mono ?_; rintro e w2 ⟨rfl, hb⟩
            have X3 := X2.below hb X2.lt
            have b3 := below_then b2 hb b2.size
            have c5 := X3.cell 5
            simp at c5
            clear hb X2 b2 HCK hm
            by_cases hC0 : C = 0
            · subst hC0
              have HV : Hid (txnCheck ⟨2, p, nm, vs⟩ = valsCheck vs) := Lib.hid (by rw [HTO.out]; simp)
              go_wp2
              go_loopg [3, 55] vs.length (fun g s3 s55 wy => ∃ j : Nat, j + g = vs.length ∧ s3 = .int .i64 0 ∧ s55 = .int .i64 j ∧ Hid (valsCheck vs = valsCheck (vs.drop j)) ∧ Below w.heap.size w wy)
              case atStart => exact ⟨0, by omega, rfl, rfl, Lib.hid rfl, b3⟩
              case round =>
                skip
                obtain ⟨j, hjg, rfl, rfl, HJ, by_⟩ := hrel
                cases gk with
                | zero =>
                  have hjz : ¬ ((j : Int) < (vs.length : Int)) := by omega
                  have hz : txnCheck ⟨2, p, nm, vs⟩ = 0 := by rw [HV.out, HJ.out, List.drop_eq_nil_of_le (by omega)]; rfl
                  have HT2 : Hid (txnsCheck (l.map (·.t)) = txnsCheck ((l.map (·.t)).drop (k + 1))) := Lib.hid (by rw [HT.out, HSTEP.out, hz]; simp)
                  clear hz
                  go_wp2
                  go_roundg go
                  case rel => exact ⟨k + 1, by omega, rfl, by go_num, HT2, by_⟩
                  case measure => omega
                | succ gk2 =>
                  have hjl : j < vs.length := by omega
                  have hav : vs.length ≤ 140737488355328 := hfit.a
                  obtain ⟨b2, off2, rfl, hb2l, hvc⟩ := hok.a.vals (show 0 < vs.length by omega)
                  have hv := hvc j hjl
                  have hvs : valsCheck (vs.drop j) = if datumCheck vs[j] ≠ 0 then datumCheck vs[j] else valsCheck (vs.drop (j + 1)) := by
                    rw [List.drop_eq_getElem_cons hjl, valsCheck]
                  simp only at hv
                  have hvi : ∀ i, i < 3 → wr.cell? ⟨b2, off2 + j * 3 + i, none⟩ = (valCells vs[j])[i]? := fun i hi => (by_.cell (p := ⟨b2, off2 + j * 3 + i, none⟩) hb2l).trans (hv i hi)
                  have hdc := fun W => dcheck_any vs[j] W
                  obtain ⟨E, hE⟩ : ∃ E, E = datumCheck vs[j] := ⟨_, rfl⟩
                  rw [← hE] at hdc hvs
                  have v0 := hvi 0 (by decide); have v1 := hvi 1 (by decide); have v2 := hvi 2 (by decide)
                  have HVS := Lib.hid hvs
                  generalize vs[j] = u at *
                  obtain ⟨uk, un, ut⟩ := u
                  simp only [valCells, List.getElem?_toArray, List.getElem?_cons_zero, List.getElem?_cons_succ, Nat.add_zero] at v0 v1 v2 hdc
                  have HDC := Lib.hid hdc
                  have hjI : (j : Int) < (vs.length : Int) := by omega
                  have b4 := by_.alloc by_.size (.cells #[.int .i64 uk, .int .i64 un, .string ut] 57)
                  clear hvs hv hvi hvc hdc hE
                  go_wp2_with fail
                  refine (HDC.out _).mono ?_; rintro e w5 ⟨rfl, hb⟩
                  have b5 := below_then b4 hb b4.size
                  clear hb b4 v0 v1 v2
                  by_cases hE0 : E = 0
                  · subst hE0
                    have HJ2 : Hid (valsCheck vs = valsCheck (vs.drop (j + 1))) := Lib.hid (by rw [HJ.out, HVS.out]; simp)
                    go_wp2
                    go_roundg gk2
                    case rel => exact ⟨j + 1, by omega, rfl, by go_num, HJ2, b5⟩
                    case measure => omega
                  · have hE' : (E != 0) = true := by simpa using hE0
                    have hres : r = E := by rw [HRES.out, HT.out, HSTEP.out, HV.out, HJ.out, HVS.out]; simp [hE0]
                    have HRE := Lib.hid hres
                    clear hE0 hres
                    go_wp2
                    try rw [Exit.noGoto_ret]
                    go_ret
                    rw [HRE.out]
                    exact ⟨rfl, b5⟩
            · have hC' : (C != 0) = true := by simpa using hC0
              have hres : r = C := by rw [HRES.out, HT.out, HSTEP.out, HTO.out]; simp [hC0]
              have HRC := Lib.hid hres
              clear hC0 hres
              go_wp2
              try rw [Exit.noGoto_ret]
              go_ret
              rw [HRC.out]
              exact ⟨rfl, b3⟩
          by_cases k3 : kk = 3
          · subst k3
            have hkv : kindV ⟨⟨3, p, nm, vs⟩, A, c, B, d⟩ = .iface 76 (.agg #[.int .i64 3, .string p.name, .int .i64 p.args, .slice B p.code.length d, .string nm, .slice A vs.length c]) := rfl
            rw [hkv]
            have hm := m_drop #[.int .i64 3, .string p.name, .int .i64 p.args, .slice B p.code.length d, .string nm, .slice A vs.length c]
            have hck := dropcheck_any ⟨⟨3, p, nm, vs⟩, A, c, B, d⟩ w1 hfit.a
            have hto := txnCheck_own (t := ⟨3, p, nm, vs⟩) (by simp)
            have hown : ownCheck ⟨3, p, nm, vs⟩ = dropCheck ⟨3, p, nm, vs⟩ := rfl
            rw [hown] at hto
            simp only at hck
            obtain ⟨C, hC⟩ : ∃ C, C = dropCheck ⟨3, p, nm, vs⟩ := ⟨_, rfl⟩
            rw [← hC] at hck hto
            have HTO := Lib.hid hto
            unfold TxnC.cells at hck
            simp only at hck
            have HCK := Lib.hid hck
            clear hkv hck hC hown hto
            go_wp2_with fail
            refine HCK.out.mono ?_; rintro e w2 ⟨rfl, hb⟩
            have X3 := X2.below hb X2.lt
            have b3 := below_then b2 hb b2.size
            have c5 := X3.cell 5
            simp at c5
            clear hb X2 b2 HCK hm
            by_cases hC0 : C = 0
            · subst hC0
              have HV : Hid (txnCheck ⟨3, p, nm, vs⟩ = valsCheck vs) := Lib.hid (by rw [HTO.out]; simp)
              go_wp2
              go_loopg [3, 55] vs.length (fun g s3 s55 wy => ∃ j : Nat, j + g = vs.length ∧ s3 = .int .i64 0 ∧ s55 = .int .i64 j ∧ Hid (valsCheck vs = valsCheck (vs.drop j)) ∧ Below w.heap.size w wy)
              case atStart => exact ⟨0, by omega, rfl, rfl, Lib.hid rfl, b3⟩
              case round =>
                skip
                obtain ⟨j, hjg, rfl, rfl, HJ, by_⟩ := hrel
                cases gk with
                | zero =>
                  have hjz : ¬ ((j : Int) < (vs.length : Int)) := by omega
                  have hz : txnCheck ⟨3, p, nm, vs⟩ = 0 := by rw [HV.out, HJ.out, List.drop_eq_nil_of_le (by omega)]; rfl
                  have HT2 : Hid (txnsCheck (l.map (·.t)) = txnsCheck ((l.map (·.t)).drop (k + 1))) := Lib.hid (by rw [HT.out, HSTEP.out, hz]; simp)
                  clear hz
                  go_wp2
                  go_roundg go
                  case rel => exact ⟨k + 1, by omega, rfl, by go_num, HT2, by_⟩
                  case measure => omega
                | succ gk2 =>
                  have hjl : j < vs.length := by omega
                  have hav : vs.length ≤ 140737488355328 := hfit.a
                  obtain ⟨b2, off2, rfl, hb2l, hvc⟩ := hok.a.vals (show 0 < vs.length by omega)
                  have hv := hvc j hjl
                  have hvs : valsCheck (vs.drop j) = if datumCheck vs[j] ≠ 0 then datumCheck vs[j] else valsCheck (vs.drop (j + 1)) := by
                    rw [List.drop_eq_getElem_cons hjl, valsCheck]
                  simp only at hv
                  have hvi : ∀ i, i < 3 → wr.cell? ⟨b2, off2 + j * 3 + i, none⟩ = (valCells vs[j])[i]? := fun i hi => (by_.cell (p := ⟨b2, off2 + j * 3 + i, none⟩) hb2l).trans (hv i hi)
                  have hdc := fun W => dcheck_any vs[j] W
                  obtain ⟨E, hE⟩ : ∃ E, E = datumCheck vs[j] := ⟨_, rfl⟩
                  rw [← hE] at hdc hvs
                  have v0 := hvi 0 (by decide); have v1 := hvi 1 (by decide); have v2 := hvi 2 (by decide)
                  have HVS := Lib.hid hvs
                  generalize vs[j] = u at *
                  obtain ⟨uk, un, ut⟩ := u
                  simp only [valCells, List.getElem?_toArray, List.getElem?_cons_zero, List.getElem?_cons_succ, Nat.add_zero] at v0 v1 v2 hdc
                  have HDC := Lib.hid hdc
                  have hjI : (j : Int) < (vs.length : Int) := by omega
                  have b4 := by_.alloc by_.size (.cells #[.int .i64 uk, .int .i64 un, .string ut] 57)
                  clear hvs hv hvi hvc hdc hE
                  go_wp2_with fail
                  refine (HDC.out _).mono ?_; rintro e w5 ⟨rfl, hb⟩
                  have b5 := below_then b4 hb b4.size
                  clear hb b4 v0 v1 v2
                  by_cases hE0 : E = 0
                  · subst hE0
                    have HJ2 : Hid (valsCheck vs = valsCheck (vs.drop (j + 1))) := Lib.hid (by rw [HJ.out, HVS.out]; simp)
                    go_wp2
                    go_roundg gk2
                    case rel => exact ⟨j + 1, by omega, rfl, by go_num, HJ2, b5⟩
                    case measure => omega
                  · have hE' : (E != 0) = true := by simpa using hE0
                    have hres : r = E := by rw [HRES.out, HT.out, HSTEP.out, HV.out, HJ.out, HVS.out]; simp [hE0]
                    have HRE := Lib.hid hres
                    clear hE0 hres
                    go_wp2
                    try rw [Exit.noGoto_ret]
                    go_ret
                    rw [HRE.out]
                    exact ⟨rfl, b5⟩
            · have hC' : (C != 0) = true := by simpa using hC0
              have hres : r = C := by rw [HRES.out, HT.out, HSTEP.out, HTO.out]; simp [hC0]
              have HRC := Lib.hid hres
              clear hC0 hres
              go_wp2
              try rw [Exit.noGoto_ret]
              go_ret
              rw [HRC.out]
              exact ⟨rfl, b3⟩
          · have hkv : kindV ⟨⟨kk, p, nm, vs⟩, A, c, B, d⟩ = .nilIface := by simp [kindV, k1, k2, k3]
            rw [hkv]
            have hone : txnCheck ⟨kk, p, nm, vs⟩ = 1 := by simp [txnCheck, k1, k2, k3]
            have hres : r = 1 := by rw [HRES.out, HT.out, HSTEP.out, hone]; simp
            have HRC := Lib.hid hres
            clear hkv hone hres k1 k2 k3
            go_wp2
            try rw [Exit.noGoto_ret]
            go_ret
            rw [HRC.out]
            exact ⟨rfl, b2⟩
end Go.Proofs.Ytnmcdifkknphgaa
