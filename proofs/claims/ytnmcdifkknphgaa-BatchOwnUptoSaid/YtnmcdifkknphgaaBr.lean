/- Walks of treadleref12.txn and Check. -/
import Derived.Test.YtnmcdifkknphgaaBs
import Derived.Test.YtnmcdifkknphgaaRef3
namespace Go.Proofs.Ytnmcdifkknphgaa
open Go.RowKit

theorem valsCheck_drop {l : List Val} {j : Nat} (h : j < l.length) : valsCheck (l.drop j) = if datumCheck l[j] ≠ 0 then datumCheck l[j] else valsCheck (l.drop (j + 1)) := by
  rw [List.drop_eq_getElem_cons h, valsCheck]

theorem txnsCheck_drop {l : List Txn} {j : Nat} (h : j < l.length) : txnsCheck (l.drop j) = if txnCheck l[j] ≠ 0 then txnCheck l[j] else txnsCheck (l.drop (j + 1)) := by
  rw [List.drop_eq_getElem_cons h, txnsCheck]

theorem bareP_iff {p : Prc} : bareP p = false ↔ (p.name.size ≠ 0 ∨ p.args ≠ 0 ∨ 0 < p.code.length) := by
  rw [← Bool.not_eq_true]
  simp only [bareP, Bool.and_eq_true, beq_iff_eq]
  omega

set_option maxRecDepth 100000 in
set_option maxHeartbeats 4000000 in
theorem rbtxn_any (x : TxnC) (w : World) (h : x.ok w) (hf : x.fit) :
    Calls Try.prog 23 #[.agg x.cells] w fun e w' => e = .returned (.int .i64 (txnCheck x.t)) ∧ Below w.heap.size w w' := by
  have hck := fun W (hb : Below w.heap.size w W) => refCheck_any x.t.proc x.B x.d W (h.b.of_below hb (Nat.le_refl _)) hf.c
  have hna := fun W => refIsName_any x.t.name W
  have ha := hf.a
  have hro := h.a
  obtain ⟨r, hr⟩ : ∃ r, r = txnCheck x.t := ⟨_, rfl⟩
  rw [← hr]
  obtain ⟨⟨k, p, nm, vs⟩, A, c, B, d⟩ := x
  obtain ⟨z1, z2, hz⟩ : ∃ z1 z2, procCheck p = (z1, z2) := ⟨_, _, rfl⟩
  have HSZ := Lib.hid (size_nil nm)
  have HSP := Lib.hid (size_nil p.name)
  have HBI := Lib.hid (bareP_iff (p := p))
  obtain ⟨L, hL⟩ : ∃ L, L = vs.length := ⟨_, rfl⟩
  obtain ⟨nn, hnn⟩ : ∃ nn, nn = isName nm := ⟨_, rfl⟩
  unfold TxnC.cells txnCheck procCells at *
  simp only at hck hna hro hr ha ⊢
  rw [hz] at hck hr
  rw [← hnn] at hna hr
  rw [← hL] at hr ha ⊢
  have HR := Lib.hid hr
  have HCK := Lib.hid hck
  have HNA := Lib.hid hna
  have HRO := Lib.hid hro
  have HL := Lib.hid hL
  have b0 := (Below.refl w.heap.size w).alloc (Nat.le_refl _) (.cells #[.int .i64 k, .string p.name, .int .i64 p.args, .slice B p.code.length d, .string nm, .slice A L c] 30)
  have L0 := Loc.new w #[.int .i64 k, .string p.name, .int .i64 p.args, .slice B p.code.length d, .string nm, .slice A L c] 30
  have B0 := Lib.hid b0
  clear hck hr hz h hf hL hna hnn hro
  by_cases k1 : k = 1
  · subst k1
    clear b0 L0
    go_enter Try.func23, Try.ntmps23
    go_wp2_with (go_at_call 45; refine (HCK.out _ B0.out).mono ?_; rintro e w1 ⟨rfl, hb⟩)
    all_goals
      go_ret
      refine ⟨ret_int ?_, ?_⟩
      · rw [HR.out]
        have hsz := HSZ.out
        simp_all
        try omega
      · first
          | exact (Below.refl _ _).alloc (Nat.le_refl _) _
          | exact below_then ((Below.refl _ _).alloc (Nat.le_refl _) _) hb (by simp)
  by_cases k3 : k = 3
  · subst k3
    clear b0 L0
    cases nn
    all_goals
      go_enter Try.func23, Try.ntmps23
      go_wp2_with (go_at_call 46; refine (HNA.out _).mono ?_; rintro e w1 ⟨rfl, rfl⟩)
      all_goals
        go_ret
        refine ⟨ret_int ?_, (Below.refl _ _).alloc (Nat.le_refl _) _⟩
        rw [HR.out]
        have hsz := HSP.out
        have hbi := HBI.out
        simp_all
        try omega
  by_cases k2 : k = 2
  · subst k2
    clear HCK
    by_cases hbp : bareP p = false
    · have hr := HR.out
      rw [if_neg (by decide), if_pos rfl, if_pos hbp] at hr
      have HR1 := Lib.hid hr
      have hbq := HBI.out.1 hbp
      have HBQ := Lib.hid hbq
      clear hr HR HBI hbp hbq b0 L0
      go_enter Try.func23, Try.ntmps23
      go_wp2_with (go_at_call 46; refine (HNA.out _).mono ?_; rintro e w1 ⟨rfl, rfl⟩; exfalso; have hsz := HSP.out; have hbq := HBQ.out; simp_all)
      all_goals
        go_ret
        exact ⟨ret_int HR1.out.symm, (Below.refl _ _).alloc (Nat.le_refl _) _⟩
    · have hr := HR.out
      rw [if_neg (by decide), if_pos rfl, if_neg hbp] at hr
      have hp0 := bare_zero (by simpa using hbp)
      subst hp0
      simp only [Prc.zero, emptyB, List.length_nil] at L0 b0 ⊢
      have HR1 := Lib.hid hr
      have b0' := Lib.hid b0
      clear hr HR HBI hbp HSP HSZ B0
      go_enter Try.func23, Try.ntmps23
      go_wp2_with fail
      refine (HNA.out _).mono ?_; rintro e w1 ⟨rfl, rfl⟩
      cases nn with
      | false =>
        have hr := HR1.out
        rw [if_pos rfl] at hr
        go_wp2
        go_ret
        exact ⟨ret_int hr.symm, b0⟩
      | true =>
        have hr := HR1.out
        rw [if_neg (by decide)] at hr
        by_cases h16 : 16 < L
        · rw [if_pos h16] at hr
          have h16' : (16 : Int) < (L : Int) := by omega
          go_wp2
          go_ret
          exact ⟨ret_int hr.symm, b0⟩
        · rw [if_neg h16] at hr
          have h16' : ¬ (16 : Int) < (L : Int) := by omega
          have HR2 := Lib.hid hr
          clear hr HR1
          go_wp2
          go_loopw [7] (fun i wr => ∃ j : Nat, j ≤ L ∧ i = .int .i64 j ∧ Below w.heap.size w wr ∧ Loc wr w.heap.size #[.int .i64 2, .string ⟨#[]⟩, .int .i64 0, .slice B 0 d, .string nm, .slice A L c] 30 ∧ Hid (valsCheck vs = valsCheck (vs.drop j))) (fun i _ => L - (intOf i).toNat)
          case atStart => exact ⟨0, Nat.zero_le _, rfl, b0, L0, rfl⟩
          case round =>
            obtain ⟨wi, rfl⟩ : ∃ wi, wi = wr := ⟨_, rfl⟩
            obtain ⟨j, hj, rfl, bi, Li, HV⟩ := hrel
            have c5 := Li.cell 5
            simp at c5
            clear b0 L0
            by_cases hjL : j < L
            · have hjv : j < vs.length := by rw [← HL.out]; exact hjL
              have hjL' : (j : Int) < (L : Int) := by omega
              obtain ⟨b, off, rfl, hbl, hc⟩ := (HRO.out.of_below bi (Nat.le_refl _)).vals (by omega)
              have hcx := hc j hjv
              have hv := HV.out
              rw [valsCheck_drop hjv] at hv
              generalize vs[j] = X at *
              have x0 := hcx 0 (by decide); have x1 := hcx 1 (by decide); have x2 := hcx 2 (by decide)
              have hdc := fun W => refDCheck_any X W
              obtain ⟨q, hq⟩ : ∃ q, q = datumCheck X := ⟨_, rfl⟩
              rw [← hq] at hv hdc
              obtain ⟨vk, vn, vt⟩ := X
              simp only [valCells, List.getElem?_toArray, List.getElem?_cons_zero, List.getElem?_cons_succ, Nat.add_zero] at x0 x1 x2 hdc
              have HV2 := Lib.hid hv
              have HDC := Lib.hid hdc
              clear hc hcx hv hdc hq HV
              go_wp2_with fail
              refine (HDC.out _).mono ?_; rintro e w2 ⟨rfl, hb⟩
              have bj := below_then bi hb bi.size
              have Lj := Li.below hb Li.lt
              by_cases hq0 : q = 0
              · subst hq0
                go_wp2
                go_roundw
                case rel =>
                  refine ⟨j + 1, by omega, by go_num, bj, Lj, Lib.hid ?_⟩
                  have := HV2.out
                  rw [if_neg (by decide)] at this
                  exact this
                case measure => simp [intOf]; omega
              · have ht : (q != 0) = true := by simpa using hq0
                have hv := HV2.out
                rw [if_pos hq0] at hv
                have HV3 := Lib.hid hv
                clear hq0 hv
                go_wp2
                go_ret
                exact ⟨ret_int (by rw [HR2.out, HV3.out]), bj⟩
            · obtain rfl : j = L := by omega
              have hv := HV.out
              rw [List.drop_of_length_le (by rw [← HL.out]; exact Nat.le_refl _), valsCheck] at hv
              have HV2 := Lib.hid hv
              clear hv
              go_wp2
              go_ret
              exact ⟨ret_int (by rw [HR2.out, HV2.out]), bi⟩
  · have t1 : (k == 1) = false := by simpa using k1
    have t2 : (k == 2) = false := by simpa using k2
    have t3 : (k == 3) = false := by simpa using k3
    have hr := HR.out
    rw [if_neg k1, if_neg k2, if_neg k3] at hr
    have HR1 := Lib.hid hr
    clear k1 k2 k3 hr b0 L0
    go_enter Try.func23, Try.ntmps23
    go_wp2
    go_ret
    exact ⟨ret_int HR1.out.symm, B0.out⟩

set_option maxRecDepth 100000 in
set_option maxHeartbeats 4000000 in
theorem rbcheck_any (first : Int) (l : List TxnC) (A : Option Addr) (cap : Nat) (w : World) (hr : Row w A (txnsCells l)) (hok : ∀ x ∈ l, x.ok w) (hfit : ∀ x ∈ l, x.fit) (hlen : l.length ≤ 140737488355328) :
    Calls Try.prog 12 #[.agg #[.int .i64 first, .slice A l.length cap]] w fun e w' => e = .returned (.int .i64 (batCheck ⟨first, l.map (·.t)⟩)) ∧ Below w.heap.size w w' := by
  obtain ⟨r, hr0⟩ : ∃ r, r = batCheck ⟨first, l.map (·.t)⟩ := ⟨_, rfl⟩
  rw [← hr0]
  have hr1 : r = if first < 1 ∨ 281474976710655 < first ∨ l.length = 0 ∨ 64 < l.length then 1 else if 281474976710655 < first + l.length - 1 then 23 else txnsCheck (l.map (·.t)) := by
    rw [hr0]
    unfold batCheck maxNumber
    simp only [List.length_map]
  obtain ⟨N, hN⟩ : ∃ N, N = l.length := ⟨_, rfl⟩
  rw [← hN] at hr1 hlen ⊢
  have HR := Lib.hid hr1
  have HN := Lib.hid hN
  have HRO := Lib.hid hr
  have HOK := Lib.hid hok
  have HFIT := Lib.hid hfit
  have b0 := (Below.refl w.heap.size w).alloc (Nat.le_refl _) (.cells #[.int .i64 first, .slice A N cap] 24)
  have L0 := Loc.new w #[.int .i64 first, .slice A N cap] 24
  clear hr0 hr1 hN hr hok hfit
  by_cases h1 : first < 1 ∨ 281474976710655 < first ∨ N = 0 ∨ 64 < N
  · have hr := HR.out
    rw [if_pos h1] at hr
    have HR1 := Lib.hid hr
    have H1 := Lib.hid h1
    clear hr h1 HR L0
    go_enter Try.func12, Try.ntmps12
    go_wp2_with fail
    all_goals first
      | (exfalso; have h1 := H1.out; omega)
      | (go_ret; exact ⟨ret_int HR1.out.symm, (Below.refl _ _).alloc (Nat.le_refl _) _⟩)
  · have hr := HR.out
    rw [if_neg h1] at hr
    have n1 : ¬ first < 1 := by omega
    have n2 : ¬ 281474976710655 < first := by omega
    have n3 : ¬ (N : Int) < 1 := by omega
    have n4 : ¬ (64 : Int) < (N : Int) := by omega
    have hN64 : N ≤ 64 := by omega
    clear HR
    by_cases h2 : 281474976710655 < first + N - 1
    · rw [if_pos h2] at hr
      have HR1 := Lib.hid hr
      clear hr h1 L0
      go_enter Try.func12, Try.ntmps12
      go_wp2
      go_ret
      exact ⟨ret_int HR1.out.symm, b0⟩
    · rw [if_neg h2] at hr
      have HR1 := Lib.hid hr
      clear hr h1
      go_enter Try.func12, Try.ntmps12
      go_wp2
      go_loopw [3] (fun i wr => ∃ j : Nat, j ≤ N ∧ i = .int .i64 j ∧ Below w.heap.size w wr ∧ Loc wr w.heap.size #[.int .i64 first, .slice A N cap] 24 ∧ Hid (txnsCheck (l.map (·.t)) = txnsCheck ((l.map (·.t)).drop j))) (fun i _ => N - (intOf i).toNat)
      case atStart => exact ⟨0, Nat.zero_le _, rfl, b0, L0, rfl⟩
      case round =>
        obtain ⟨wi, rfl⟩ : ∃ wi, wi = wr := ⟨_, rfl⟩
        obtain ⟨j, hj, rfl, bi, Li, HV⟩ := hrel
        have c1 := Li.cell 1
        simp at c1
        clear b0 L0
        by_cases hjN : j < N
        · have hjl : j < l.length := by rw [← HN.out]; exact hjN
          have hjN' : (j : Int) < (N : Int) := by omega
          obtain ⟨b, off, rfl, hbl, hc⟩ := (HRO.out.of_below bi (Nat.le_refl _)).txns (by omega)
          have hcx := hc j hjl
          have hv := HV.out
          rw [txnsCheck_drop (by simpa using hjl), List.getElem_map] at hv
          have hox := (HOK.out _ (List.getElem_mem hjl)).below bi
          have hfx := HFIT.out _ (List.getElem_mem hjl)
          generalize l[j] = X at *
          have hdc := fun W (h : X.ok W) => rbtxn_any X W h hfx
          obtain ⟨q, hq⟩ : ∃ q, q = txnCheck X.t := ⟨_, rfl⟩
          rw [← hq] at hv hdc
          obtain ⟨⟨xk, ⟨xn, xa, xc⟩, xm, xv⟩, XA, xca, XB, xcb⟩ := X
          have x0 := hcx 0 (by decide); have x1 := hcx 1 (by decide); have x2 := hcx 2 (by decide); have x3 := hcx 3 (by decide); have x4 := hcx 4 (by decide); have x5 := hcx 5 (by decide)
          simp only [TxnC.cells, List.getElem?_toArray, List.getElem?_cons_zero, List.getElem?_cons_succ, Nat.add_zero] at x0 x1 x2 x3 x4 x5 hdc
          have HV2 := Lib.hid hv
          have HDC := Lib.hid hdc
          have HOX := Lib.hid hox
          clear hc hcx hv hdc hq HV hox hfx
          go_wp2_with fail
          refine (HDC.out _ HOX.out).mono ?_; rintro e w2 ⟨rfl, hb⟩
          have bj := below_then bi hb bi.size
          have Lj := Li.below hb Li.lt
          by_cases hq0 : q = 0
          · subst hq0
            go_wp2
            go_roundw
            case rel =>
              refine ⟨j + 1, by omega, by go_num, bj, Lj, Lib.hid ?_⟩
              have := HV2.out
              rw [if_neg (by decide)] at this
              exact this
            case measure => simp [intOf]; omega
          · have ht : (q != 0) = true := by simpa using hq0
            have hv := HV2.out
            rw [if_pos hq0] at hv
            have HV3 := Lib.hid hv
            clear hq0 hv
            go_wp2
            go_ret
            exact ⟨ret_int (by rw [HR1.out, HV3.out]), bj⟩
        · obtain rfl : j = N := by omega
          have hv := HV.out
          rw [List.drop_of_length_le (by rw [List.length_map, ← HN.out]; exact Nat.le_refl _), txnsCheck] at hv
          have HV2 := Lib.hid hv
          clear hv
          go_wp2
          go_ret
          exact ⟨ret_int (by rw [HR1.out, HV2.out]), bi⟩
end Go.Proofs.Ytnmcdifkknphgaa
