/- Walk of BatchEncodes. Printed by gen_bj.py from XBp. -/
import Derived.Test.YtnmcdifkknphgaaBq
import Derived.Test.YtnmcdifkknphgaaBg
import Derived.Test.YtnmcdifkknphgaaBo
import Derived.Test.YtnmcdifkknphgaaBi
import Derived.Test.YtnmcdifkknphgaaBp
namespace Go.Proofs.Ytnmcdifkknphgaa
open Go.RowKit

theorem batEncode_le (b : Bat) : (batEncode b).1.length ≤ 65536 := by
  unfold batEncode
  split
  · simp
  · split
    · simp
    · simp only; omega

/-- Two rows of the same bytes. -/
theorem same_yes (A B : Option Addr) (ca cb : Nat) (xs : Bs) (w : World) (ha : Row w A (cellsB xs)) (hb : Row w B (cellsB xs)) (hln : xs.length ≤ 140737488355328) :
    Calls Try.prog 17 #[.slice A xs.length ca, .slice B xs.length cb] w fun e w' => e = .returned (.bool true) ∧ Below w.heap.size w w' :=
  (same_any A B xs.length xs.length ca cb xs xs w ha hb rfl rfl hln hln).mono fun _ _ h => ⟨by rw [h.1]; simp, h.2⟩

theorem num_of {l lt : List TxnC} (h : lt.map (·.t) = l.map (·.t)) (hf : ∀ x ∈ l, ∀ v ∈ x.t.args, i64v v) : ∀ y ∈ lt, ∀ v ∈ y.t.args, i64v v := fun y hy => by
  have h1 : y.t ∈ l.map (·.t) := by rw [← h]; exact List.mem_map_of_mem hy
  obtain ⟨x, hx, he⟩ := List.mem_map.1 h1
  have hx' := hf x hx
  rw [he] at hx'
  exact hx'

theorem TxnC.came.num {w : World} {x : TxnC} (h : x.came w) : ∀ v ∈ x.t.args, i64v v := fun v hv => (h.v v hv).2

theorem bytes_putT {W : World} {b1 b2 n n2 g m c k : Nat} {v : Value} {v0 v1 v2 v3 v4 v5 : Value} {xs ys : List Value} (h : W.ownsRow b1 5 1 v n xs) (h2 : W.ownsRow b2 30 6 (.slice (some ⟨g, 0, none⟩) m c) n2 ys) : (putT W g k v0 v1 v2 v3 v4 v5).ownsRow b1 5 1 v n xs := by
  have ha := owns_apart h h2 (by decide)
  exact owns_setCell (a := ⟨g, k * 6 + 5, none⟩) (owns_setCell (a := ⟨g, k * 6 + 4, none⟩) (owns_setCell (a := ⟨g, k * 6 + 3, none⟩) (owns_setCell (a := ⟨g, k * 6 + 2, none⟩) (owns_setCell (a := ⟨g, k * 6 + 1, none⟩) (owns_setCell (a := ⟨g, k * 6, none⟩) h ha _) ha _) ha _) ha _) ha _) ha _

set_option maxRecDepth 100000 in
set_option maxHeartbeats 4000000 in
theorem bencodes_any (f : Int) (l : List TxnC) (A : Option Addr) (cap : Nat) (x : TxnC) (i : Int) (w : World) (hr : Row w A (txnsCells l)) (hcm : ∀ y ∈ l, y.came w) (hx : x.came w) (hf : i64R f) :
    Calls Try.prog 4 #[.agg #[.int .i64 f, .slice A l.length cap], .agg x.cells, .int .i64 i] w fun e w' => e = .returned (.bool true) ∧ Below w.heap.size w w' := by
  have hlong := fun W (b : Below w.heap.size w W) => long_any f l A cap W (hr.of_below b (Nat.le_refl _))
  have htwin := fun W (b : Below w.heap.size w W) h3 ha => btwin_any f l A cap W (hr.of_below b (Nat.le_refl _)) (fun y hy => (hcm y hy).ok.below b) h3 ha
  have HF := Lib.hid hf
  have HCM := Lib.hid hcm
  have HX := Lib.hid hx
  have HR := Lib.hid hr
  obtain ⟨X, hX⟩ : ∃ X, X = x := ⟨_, rfl⟩
  have HXX := Lib.hid hX
  obtain ⟨⟨xk, ⟨xn, xa, xc⟩, xm, xv⟩, XA, xca, XB, xcb⟩ := x
  have hlx := fun W (h : Row W (some ⟨W.heap.size - 1, 0, none⟩) (txnsCells [X])) => long_any 0 [X] (some ⟨W.heap.size - 1, 0, none⟩) 1 W h
  obtain ⟨N, hN⟩ : ∃ N, N = l.length := ⟨_, rfl⟩
  obtain ⟨na, hna⟩ : ∃ na, na = xv.length := ⟨_, rfl⟩
  obtain ⟨nc, hnc⟩ : ∃ nc, nc = xc.length := ⟨_, rfl⟩
  unfold TxnC.cells
  simp only
  rw [← hN] at hlong htwin ⊢
  rw [← hna, ← hnc]
  have HLONG := Lib.hid hlong
  have HTWIN := Lib.hid htwin
  have HLX := Lib.hid hlx
  have HN := Lib.hid hN
  have HNA := Lib.hid hna
  have HNC := Lib.hid hnc
  clear hlong htwin hlx hN hna hnc hf hcm hx hr hX
  go_enter Try.func4, Try.ntmps4
  have b0 : Below w.heap.size w ((w.alloc (.cells #[.int .i64 f, .slice A N cap] 24)).alloc (.cells #[.int .i64 xk, .string xn, .int .i64 xa, .slice XB nc xcb, .string xm, .slice XA na xca] 30)) := ((Below.refl w.heap.size w).alloc (Nat.le_refl _) _).alloc (by simp) _
  have L0 := (Loc.new w #[.int .i64 f, .slice A N cap] 24).alloc (.cells #[.int .i64 xk, .string xn, .int .i64 xa, .slice XB nc xcb, .string xm, .slice XA na xca] 30)
  have X0 := Loc.new (w.alloc (.cells #[.int .i64 f, .slice A N cap] 24)) #[.int .i64 xk, .string xn, .int .i64 xa, .slice XB nc xcb, .string xm, .slice XA na xca] 30
  simp only [World.size_alloc] at X0
  go_wp2_with fail
  refine (HLONG.out _ b0).mono ?_; rintro e w1 ⟨⟨bb, rfl, hbb⟩, hb⟩
  have L1 := L0.below hb L0.lt
  have X1 := X0.below hb X0.lt
  have b1 := below_then b0 hb b0.size
  clear L0 X0 b0 hb
  cases bb with
  | true =>
    go_wp2
    go_ret
    exact ⟨rfl, b1⟩
  | false =>
    have HBB := Lib.hid (hbb rfl)
    obtain ⟨x0, x1, x2, x3, x4, x5⟩ := loc_six X1
    clear hbb
    have hb2 := (Below.refl w1.heap.size w1).alloc (Nat.le_refl _) (.cells #[.int .i64 xk, .string xn, .int .i64 xa, .slice XB nc xcb, .string xm, .slice XA na xca] 30)
    have hlx2 := HLX.out (w1.alloc (.cells #[.int .i64 xk, .string xn, .int .i64 xa, .slice XB nc xcb, .string xm, .slice XA na xca] 30)) (by
      have h := Row.of_loc (Loc.new w1 #[.int .i64 xk, .string xn, .int .i64 xa, .slice XB nc xcb, .string xm, .slice XA na xca] 30)
      have e : (w1.alloc (.cells #[.int .i64 xk, .string xn, .int .i64 xa, .slice XB nc xcb, .string xm, .slice XA na xca] 30)).heap.size - 1 = w1.heap.size := by simp
      rw [e]
      have e2 : txnsCells [X] = (#[.int .i64 xk, .string xn, .int .i64 xa, .slice XB nc xcb, .string xm, .slice XA na xca] : Array Value).toList := by
        rw [HXX.out, HNA.out, HNC.out]; simp [txnsCells, TxnC.cells]
      rw [e2]
      exact h)
    have e : (w1.alloc (.cells #[.int .i64 xk, .string xn, .int .i64 xa, .slice XB nc xcb, .string xm, .slice XA na xca] 30)).heap.size - 1 = w1.heap.size := by simp
    rw [e, show [X].length = 1 from rfl] at hlx2
    have HL2 := Lib.hid hlx2
    have L2 := L1.below hb2 L1.lt
    have X2 := X1.below hb2 X1.lt
    have b2 := below_then b1 hb2 b1.size
    clear hlx2 e
    go_wp2_with fail
    refine HL2.out.mono ?_; rintro e w2 ⟨⟨b2', rfl, hbx⟩, hb⟩
    have L3 := L2.below hb L2.lt
    have X3 := X2.below hb X2.lt
    have b3 := below_then b2 hb b2.size
    have p0 := L3.cell 0; have p1 := L3.cell 1
    simp at p0 p1
    clear L1 X1 b1 hb2 L2 X2 b2 hb x0 x1 x2 x3 x4 x5
    cases b2' with
    | true =>
      go_wp2
      go_ret
      exact ⟨rfl, b3⟩
    | false =>
      have HBX := Lib.hid ((hbx rfl).2 X (by simp))
      clear hbx
      go_wp2_with fail
      refine (HTWIN.out _ b3 (by rw [HN.out]; exact HBB.out.1) HBB.out.2).mono ?_; rintro e w3 ⟨G, d, lt, rfl, hm, own3, hT3, hb⟩
      have L4 := L3.below hb L3.lt
      have X4 := X3.below hb X3.lt
      have b4 := below_then b3 hb b3.size
      have hw2 := b3.size
      clear L3 X3 b3 p0 p1 hb
      rw [← HN.out] at own3 ⊢
      go_wp2_with fail
      obtain ⟨D, hD⟩ : ∃ D, D = w3.heap.size := ⟨_, rfl⟩
      have bA := (Below.refl w3.heap.size w3).alloc (Nat.le_refl _) (.cells #[.int .i64 f, .slice (some ⟨G, 0, none⟩) N d] 24)
      have D5 := Loc.new w3 #[.int .i64 f, .slice (some ⟨G, 0, none⟩) N d] 24
      have L5 := L4.below bA L4.lt
      have X5 := X4.below bA X4.lt
      have b5 := below_then b4 bA b4.size
      have own5 := owns_mono' own3 bA
      have hT5 := fun y hy => (hT3 y hy).below bA
      clear L4 X4 b4 bA own3 hT3
      rw [← hD] at D5 ⊢
      have HD := Lib.hid hD
      generalize w3.alloc (.cells #[.int .i64 f, .slice (some ⟨G, 0, none⟩) N d] 24) = w4 at *
      clear hD
      have hm' := hm
      have hll : lt.length = N := by have := congrArg List.length hm; simp at this; rw [this, HN.out]
      have hlall := HBB.out
      have hcm := HCM.out
      have hfit : ∀ y ∈ l, y.fit := fun y hy => (hcm y hy).fit (hlall.2 y hy).1 (hlall.2 y hy).2
      have hfitt := fit_of hm hfit
      have hnum : ∀ y ∈ l, ∀ v ∈ y.t.args, i64v v := fun y hy => (hcm y hy).num
      obtain ⟨zs, z2, hz⟩ : ∃ zs z2, batEncode ⟨f, l.map (·.t)⟩ = (zs, z2) := ⟨_, _, rfl⟩
      have hzl : zs.length ≤ 65536 := by
        have := batEncode_le ⟨f, l.map (·.t)⟩
        rw [hz] at this
        exact this
      have hen : ∀ W, Below w4.heap.size w4 W → Calls Try.prog 15 #[.agg #[.int .i64 f, .slice (some ⟨G, 0, none⟩) N d]] W fun e w' => ∃ A' c', e = .returned (.tuple #[.slice A' zs.length c', .int .i64 z2]) ∧ w'.ownsRow W.heap.size 5 1 (.slice A' zs.length c') zs.length (cellsB zs) ∧ Below W.heap.size W w' := fun W b => by
        have h := bencode_any f lt (some ⟨G, 0, none⟩) d W (by have := (Row.of_owns own5).of_below b (Nat.le_refl _); rw [txnsCells_append] at this; exact this.fore) (fun y hy => ((hT5 y hy).below b).ok) hfitt (num_of hm hnum) (by have := hlall.1; have := HN.out; omega) HF.out
        rw [hm, hll, hz] at h
        exact h
      have b5' := b5
      have hre : ∀ W, Below w4.heap.size w4 W → Calls Try.prog 16 #[.agg #[.int .i64 f, .slice A N cap]] W fun e w' => ∃ A' c', e = .returned (.tuple #[.slice A' zs.length c', .int .i64 z2]) ∧ w'.ownsRow W.heap.size 5 1 (.slice A' zs.length c') zs.length (cellsB zs) ∧ Below W.heap.size W w' := fun W b => by
        have bw := below_then b5' b b5'.size
        have h := rbencode_any f l A cap W (HR.out.of_below bw (Nat.le_refl _)) (fun y hy => (hcm y hy).ok.below bw) hfit hnum (by have := hlall.1; omega)
        rw [← HN.out, hz] at h
        exact h
      have hst : ∀ W, Below w4.heap.size w4 W → Calls Try.prog 13 #[.agg #[.int .i64 f, .slice (some ⟨G, 0, none⟩) N d], .agg #[.int .i64 f, .slice A N cap]] W fun e w' => e = .returned (.bool true) ∧ Below W.heap.size W w' := fun W b => by
        have bw := below_then b5' b b5'.size
        have h := bstands_any f l lt A cap G d w2.heap.size W (HR.out.of_below bw (Nat.le_refl _)) (fun y hy => (hcm y hy).ok.below bw) hlall.1 hlall.2 hfit hm (by rw [← HN.out]; exact owns_mono' own5 b) (fun y hy => (hT5 y hy).below b)
        rw [← HN.out] at h
        exact h
      have hss : ∀ W, Below w4.heap.size w4 W → W.cell? ⟨D, 0, none⟩ = some (.int .i64 f) ∧ W.cell? ⟨D, 1, none⟩ = some (.slice (some ⟨G, 0, none⟩) N d) ∧ W.cell? ⟨w.heap.size, 0, none⟩ = some (.int .i64 f) ∧ W.cell? ⟨w.heap.size, 1, none⟩ = some (.slice A N cap) := fun W b => by
        have hD := D5.below b D5.lt
        have hL := L5.below b L5.lt
        exact ⟨hD.cell 0, hD.cell 1, hL.cell 0, hL.cell 1⟩
      have HEN := Lib.hid hen
      have HRE := Lib.hid hre
      have HST := Lib.hid hst
      have HSS := Lib.hid hss
      have HFIT := Lib.hid hfit
      have HM := Lib.hid hm
      have HT5 := Lib.hid hT5
      have HNUM := Lib.hid hnum
      have hne : (z2 != z2) = false := by simp
      obtain ⟨e0, e1, l0, l1⟩ := HSS.out _ (Below.refl _ _)
      clear hen hre hst hss hfit hfitt hlall hcm hm hm' hT5 hnum hz b5'
      go_wp2_with fail
      refine (HEN.out _ (Below.refl _ _)).mono ?_; rintro e u5 ⟨A5, c5, rfl, p5, hb⟩
      have d5 := below_then (Below.refl w4.heap.size w4) hb (Nat.le_refl _)
      clear e0 e1 l0 l1 hb
      obtain ⟨e0, e1, l0, l1⟩ := HSS.out _ d5
      go_wp2_with fail
      refine (HRE.out _ d5).mono ?_; rintro e u6 ⟨A6, c6, rfl, p6, hb⟩
      have d6 := below_then d5 hb d5.size
      have p5' := owns_mono' p5 hb
      clear e0 e1 l0 l1 hb p5
      go_wp2_with fail
      refine (same_yes A5 A6 c5 c6 zs _ (Row.of_owns p5') (Row.of_owns p6) (by omega)).mono ?_; rintro e u7 ⟨rfl, hb⟩
      have d7' := below_then d6 hb d6.size
      have p5'' := owns_mono' p5' hb
      have p6' := owns_mono' p6 hb
      clear hb p5' p6
      obtain ⟨e0, e1, l0, l1⟩ := HSS.out _ d7'
      go_wp2_with fail
      refine (HST.out _ d7').mono ?_; rintro e w7 ⟨rfl, hb⟩
      have d7 := below_then d7' hb d7'.size
      have q5 := owns_mono' p5'' hb
      have q6 := owns_mono' p6' hb
      clear e0 e1 l0 l1 hb p5'' p6' d5 d6 d7'
      have hl7 := HSS.out _ d7
      obtain ⟨e0, e1, l0, l1⟩ := hl7
      by_cases hN0 : N = 0
      · subst hN0
        go_wp2_with fail
        refine (bknown_any _).mono ?_; rintro e w8 ⟨rfl, hb⟩
        go_wp2
        go_ret
        exact ⟨rfl, below_then (below_then b5 d7 b5.size) hb (below_then b5 d7 b5.size).size⟩
      · obtain ⟨k, hk, hcase⟩ := idx_case i N (by omega)
        have hkl : k < lt.length := by rw [hll]; exact hk
        have hN0' : ((N : Int) == 0) = false := by simp; omega
        rcases hcase with ⟨h1, h2⟩ | ⟨h1, h2⟩
        all_goals
          have hN3 : N ≤ 300 := by rw [HN.out]; exact HBB.out.1
          have hkI : (k : Int) < (N : Int) := by omega
          have hkI0 : (0 : Int) ≤ (k : Int) := by omega
          have hkI3 : (k : Int) < 300 := by omega
          have own7 := owns_mono' own5 d7
          have D7 := D5.below d7 D5.lt
          have X7 := X5.below d7 X5.lt
          have b7 := below_then b5 d7 b5.size
          have hT7 := fun y hy => (HT5.out y hy).below d7
          have hXc : X.came w := by rw [HXX.out]; exact HX.out
          have hfitX : X.fit := hXc.fit HBX.out.1 HBX.out.2
          have hfitl : ∀ y ∈ lt.set k X, y.fit := fun y hy => by
            rcases List.mem_or_eq_of_mem_set hy with h | h
            · exact fit_of HM.out HFIT.out y h
            · rw [h]; exact hfitX
          have hcx : X.cells = #[.int .i64 xk, .string xn, .int .i64 xa, .slice XB nc xcb, .string xm, .slice XA na xca] := by rw [HXX.out, HNA.out, HNC.out]; rfl
          have hcl : (txnsCells (lt ++ tmarks 5)).length = (N + 5) * 6 := by rw [txnsCells_length, List.length_append, hll]; rfl
          have hcap := owns_cap own7 (by omega)
          have y := fun j (hj : j < 6) => owns_cell own7 (k * 6 + j) (by omega)
          have hv : ∀ j (hj : j < 6), ∃ v, w7.cell? ⟨G, k * 6 + j, none⟩ = some v := fun j hj => by
            rw [(y j hj).1]
            exact ⟨_, List.getElem?_eq_getElem (by omega)⟩
          obtain ⟨v0, y0⟩ := hv 0 (by decide); obtain ⟨v1, y1⟩ := hv 1 (by decide); obtain ⟨v2, y2⟩ := hv 2 (by decide); obtain ⟨v3, y3⟩ := hv 3 (by decide); obtain ⟨v4, y4⟩ := hv 4 (by decide); obtain ⟨v5, y5⟩ := hv 5 (by decide)
          have f0 := (y 0 (by decide)).2; have f1 := (y 1 (by decide)).2; have f2 := (y 2 (by decide)).2; have f3 := (y 3 (by decide)).2; have f4 := (y 4 (by decide)).2; have f5 := (y 5 (by decide)).2
          simp only [Nat.add_zero] at y0 f0
          obtain ⟨x0, x1, x2, x3, x4, x5⟩ := loc_six X7
          have hnumX : ∀ y ∈ lt.set k X, ∀ v ∈ y.t.args, i64v v := fun y hy => by
            rcases List.mem_or_eq_of_mem_set hy with h | h
            · exact num_of HM.out HNUM.out y h
            · rw [h]; exact hXc.num
          have HNX := Lib.hid hnumX
          have HQ5 := Lib.hid q5
          have HQ6 := Lib.hid q6
          have HO7 := Lib.hid own7
          have HD7 := Lib.hid D7
          have HB7 := Lib.hid b7
          have HT7 := Lib.hid hT7
          have HFL := Lib.hid hfitl
          have HXC := Lib.hid hXc
          have HCX := Lib.hid hcx
          have hGb : w.heap.size ≤ G := by omega
          clear hcl y hv hcap hcx own7 D7 b7 hT7 own5 D5 X5 b5 L5 d7 X7 hfitX hfitl hXc hw2 hnumX q5 q6
          go_upto_region 14 with (fail)
          have o9 := owns_putT HO7.out k (by rw [List.length_append]; omega) X (.int .i64 xk) (.string xn) (.int .i64 xa) (.slice XB nc xcb) (.string xm) (.slice XA na xca) HCX.out
          rw [List.set_append_left _ _ hkl] at o9
          have D9 : Loc (putT w7 G k (.int .i64 xk) (.string xn) (.int .i64 xa) (.slice XB nc xcb) (.string xm) (.slice XA na xca)) D #[.int .i64 f, .slice (some ⟨G, 0, none⟩) N d] 24 := putT_loc HD7.out (by
            have := owns_ne HO7.out HD7.out (by decide)
            intro h
            exact this (by rw [h]; rfl))
          have b9 : Below w.heap.size w (putT w7 G k (.int .i64 xk) (.string xn) (.int .i64 xa) (.slice XB nc xcb) (.string xm) (.slice XA na xca)) := putT_below HB7.out hGb
          have T9 : ∀ y ∈ lt, Twin (putT w7 G k (.int .i64 xk) (.string xn) (.int .i64 xa) (.slice XB nc xcb) (.string xm) (.slice XA na xca)) w2.heap.size y := fun y hy => (HT7.out y hy).putT HO7.out
          have Q5 : (putT w7 G k (.int .i64 xk) (.string xn) (.int .i64 xa) (.slice XB nc xcb) (.string xm) (.slice XA na xca)).ownsRow w4.heap.size 5 1 (.slice A5 zs.length c5) zs.length (cellsB zs) := bytes_putT HQ5.out HO7.out
          have Q6 : (putT w7 G k (.int .i64 xk) (.string xn) (.int .i64 xa) (.slice XB nc xcb) (.string xm) (.slice XA na xca)).ownsRow u5.heap.size 5 1 (.slice A6 zs.length c6) zs.length (cellsB zs) := bytes_putT HQ6.out HO7.out
          clear y0 y1 y2 y3 y4 y5 f0 f1 f2 f3 f4 f5 x0 x1 x2 x3 x4 x5 e0 e1 l0 l1
          unfold putT at o9 D9 b9 T9 Q5 Q6
          generalize ((((((w7.setCell ⟨G, k * 6, none⟩ (.int .i64 xk)).setCell ⟨G, k * 6 + 1, none⟩ (.string xn)).setCell ⟨G, k * 6 + 2, none⟩ (.int .i64 xa)).setCell ⟨G, k * 6 + 3, none⟩ (.slice XB nc xcb)).setCell ⟨G, k * 6 + 4, none⟩ (.string xm)).setCell ⟨G, k * 6 + 5, none⟩ (.slice XA na xca)) = w9 at o9 D9 b9 T9 Q5 Q6 ⊢
          have hll2 : (lt.set k X).length = N := by rw [List.length_set]; exact hll
          obtain ⟨ys, y2, hy⟩ : ∃ ys y2, batEncode ⟨f, (lt.set k X).map (·.t)⟩ = (ys, y2) := ⟨_, _, rfl⟩
          have hyl : ys.length ≤ 65536 := by
            have := batEncode_le ⟨f, (lt.set k X).map (·.t)⟩
            rw [hy] at this
            exact this
          have hok9 : ∀ W, Below w9.heap.size w9 W → ∀ y ∈ lt.set k X, y.ok W := fun W b y hy => by
            rcases List.mem_or_eq_of_mem_set hy with h | h
            · exact ((T9 y h).below b).ok
            · rw [h]; exact HXC.out.ok.below (below_then b9 b b9.size)
          have hr9 : ∀ W, Below w9.heap.size w9 W → Row W (some ⟨G, 0, none⟩) (txnsCells (lt.set k X)) := fun W b => by
            have h := (Row.of_owns o9).of_below b (Nat.le_refl _)
            rw [txnsCells_append] at h
            exact h.fore
          have hen : ∀ W, Below w9.heap.size w9 W → Calls Try.prog 15 #[.agg #[.int .i64 f, .slice (some ⟨G, 0, none⟩) N d]] W fun e w' => ∃ A' c', e = .returned (.tuple #[.slice A' ys.length c', .int .i64 y2]) ∧ w'.ownsRow W.heap.size 5 1 (.slice A' ys.length c') ys.length (cellsB ys) ∧ Below W.heap.size W w' := fun W b => by
            have h := bencode_any f (lt.set k X) (some ⟨G, 0, none⟩) d W (hr9 W b) (hok9 W b) HFL.out HNX.out (by omega) HF.out
            rw [hll2, hy] at h
            exact h
          have hre : ∀ W, Below w9.heap.size w9 W → Calls Try.prog 16 #[.agg #[.int .i64 f, .slice (some ⟨G, 0, none⟩) N d]] W fun e w' => ∃ A' c', e = .returned (.tuple #[.slice A' ys.length c', .int .i64 y2]) ∧ w'.ownsRow W.heap.size 5 1 (.slice A' ys.length c') ys.length (cellsB ys) ∧ Below W.heap.size W w' := fun W b => by
            have h := rbencode_any f (lt.set k X) (some ⟨G, 0, none⟩) d W (hr9 W b) (hok9 W b) HFL.out HNX.out (by omega)
            rw [hll2, hy] at h
            exact h
          have hss : ∀ W, Below w9.heap.size w9 W → W.cell? ⟨D, 0, none⟩ = some (.int .i64 f) ∧ W.cell? ⟨D, 1, none⟩ = some (.slice (some ⟨G, 0, none⟩) N d) := fun W b => by
            have hD := D9.below b D9.lt
            exact ⟨hD.cell 0, hD.cell 1⟩
          have HEN9 := Lib.hid hen
          have HRE9 := Lib.hid hre
          have HSS9 := Lib.hid hss
          have hne2 : (y2 == y2) = true := by simp
          obtain ⟨e0, e1⟩ := HSS9.out _ (Below.refl _ _)
          clear hen hre hss hok9 hr9 o9 T9 D9 hy hll2 HO7 HD7 HB7 HT7 HFL HXC HCX HEN HRE HST HSS hne HQ5 HQ6 HNX
          go_wp2_with fail
          refine (HEN9.out _ (Below.refl _ _)).mono ?_; rintro e u10 ⟨A10, c10, rfl, p10, hb⟩
          have d10 := below_then (Below.refl w9.heap.size w9) hb (Nat.le_refl _)
          clear e0 e1 hb
          obtain ⟨e0, e1⟩ := HSS9.out _ d10
          go_wp2_with fail
          refine (HRE9.out _ d10).mono ?_; rintro e u11 ⟨A11, c11, rfl, p11, hb⟩
          have d11 := below_then d10 hb d10.size
          have p10' := owns_mono' p10 hb
          clear e0 e1 hb p10
          go_wp2_with fail
          refine (same_yes A10 A11 c10 c11 ys _ (Row.of_owns p10') (Row.of_owns p11) (by omega)).mono ?_; rintro e u12 ⟨rfl, hb⟩
          have d12 := below_then d11 hb d11.size
          clear hb p10' p11 d10 d11
          go_wp2_with fail
          refine (same_yes A5 A6 c5 c6 zs _ (Row.of_owns (owns_mono' Q5 d12)) (Row.of_owns (owns_mono' Q6 d12)) (by omega)).mono ?_; rintro e u13 ⟨rfl, hb⟩
          have d13 := below_then d12 hb d12.size
          clear hb Q5 Q6 d12
          go_wp2_with fail
          refine (bknown_any _).mono ?_; rintro e u14 ⟨rfl, hb⟩
          have d14 := below_then d13 hb d13.size
          go_wp2
          go_ret
          exact ⟨rfl, below_then b9 d14 b9.size⟩
end Go.Proofs.Ytnmcdifkknphgaa
