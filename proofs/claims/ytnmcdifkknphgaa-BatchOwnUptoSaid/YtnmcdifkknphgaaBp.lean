/- Walk of BatchChecks (under way). -/
import Derived.Test.YtnmcdifkknphgaaBq
import Derived.Test.YtnmcdifkknphgaaBg
import Derived.Test.YtnmcdifkknphgaaBo
import Derived.Test.YtnmcdifkknphgaaBr
import Derived.Test.YtnmcdifkknphgaaBn
namespace Go.Proofs.Ytnmcdifkknphgaa
open Go.RowKit

theorem TxnC.came.fit {w : World} {x : TxnC} (h : x.came w) (ha : x.t.args.length ≤ 300) (hc : x.t.proc.code.length ≤ 300) : x.fit := ⟨h.r, by omega, by omega⟩

set_option maxRecDepth 100000 in
set_option maxHeartbeats 4000000 in
theorem bchecks_any (f : Int) (l : List TxnC) (A : Option Addr) (cap : Nat) (x : TxnC) (i : Int) (w : World) (hr : Row w A (txnsCells l)) (hcm : ∀ y ∈ l, y.came w) (hx : x.came w) (hf : i64R f) :
    Calls Try.prog 3 #[.agg #[.int .i64 f, .slice A l.length cap], .agg x.cells, .int .i64 i] w fun e w' => e = .returned (.bool true) ∧ Below w.heap.size w w' := by
  have hlong := fun W (b : Below w.heap.size w W) => long_any f l A cap W (hr.of_below b (Nat.le_refl _))
  have htwin := fun W (b : Below w.heap.size w W) h3 ha => btwin_any f l A cap W (hr.of_below b (Nat.le_refl _)) (fun y hy => (hcm y hy).ok.below b) h3 ha
  have HF := Lib.hid hf
  have HCM := Lib.hid hcm
  have HX := Lib.hid hx
  have HR := Lib.hid hr
  obtain ⟨X, hX⟩ : ∃ X, X = x := ⟨_, rfl⟩
  have HXX := Lib.hid hX
  obtain ⟨⟨xk, ⟨xn, xa, xc⟩, xm, xv⟩, XA, xca, XB, xcb⟩ := x
  have hlx := fun W (h : Row W (some ⟨W.heap.size - 1, 0, none⟩) (txnsCells [X])) => long_any 0 [X] (some ⟨W.heap.size - 1, 0, none⟩) 1 W h
  obtain ⟨N, hN⟩ : ∃ N, N = l.length := ⟨_, rfl⟩
  obtain ⟨na, hna⟩ : ∃ na, na = xv.length := ⟨_, rfl⟩
  obtain ⟨nc, hnc⟩ : ∃ nc, nc = xc.length := ⟨_, rfl⟩
  unfold TxnC.cells
  simp only
  rw [← hN] at hlong htwin ⊢
  rw [← hna, ← hnc]
  have HLONG := Lib.hid hlong
  have HTWIN := Lib.hid htwin
  have HLX := Lib.hid hlx
  have HN := Lib.hid hN
  have HNA := Lib.hid hna
  have HNC := Lib.hid hnc
  clear hlong htwin hlx hN hna hnc hf hcm hx hr hX
  go_enter Try.func3, Try.ntmps3
  have b0 : Below w.heap.size w ((w.alloc (.cells #[.int .i64 f, .slice A N cap] 24)).alloc (.cells #[.int .i64 xk, .string xn, .int .i64 xa, .slice XB nc xcb, .string xm, .slice XA na xca] 30)) := ((Below.refl w.heap.size w).alloc (Nat.le_refl _) _).alloc (by simp) _
  have L0 := (Loc.new w #[.int .i64 f, .slice A N cap] 24).alloc (.cells #[.int .i64 xk, .string xn, .int .i64 xa, .slice XB nc xcb, .string xm, .slice XA na xca] 30)
  have X0 := Loc.new (w.alloc (.cells #[.int .i64 f, .slice A N cap] 24)) #[.int .i64 xk, .string xn, .int .i64 xa, .slice XB nc xcb, .string xm, .slice XA na xca] 30
  simp only [World.size_alloc] at X0
  go_wp2_with fail
  refine (HLONG.out _ b0).mono ?_; rintro e w1 ⟨⟨bb, rfl, hbb⟩, hb⟩
  have L1 := L0.below hb L0.lt
  have X1 := X0.below hb X0.lt
  have b1 := below_then b0 hb b0.size
  clear L0 X0 b0 hb
  cases bb with
  | true =>
    go_wp2
    go_ret
    exact ⟨rfl, b1⟩
  | false =>
    have HBB := Lib.hid (hbb rfl)
    obtain ⟨x0, x1, x2, x3, x4, x5⟩ := loc_six X1
    clear hbb
    have hb2 := (Below.refl w1.heap.size w1).alloc (Nat.le_refl _) (.cells #[.int .i64 xk, .string xn, .int .i64 xa, .slice XB nc xcb, .string xm, .slice XA na xca] 30)
    have hlx2 := HLX.out (w1.alloc (.cells #[.int .i64 xk, .string xn, .int .i64 xa, .slice XB nc xcb, .string xm, .slice XA na xca] 30)) (by
      have h := Row.of_loc (Loc.new w1 #[.int .i64 xk, .string xn, .int .i64 xa, .slice XB nc xcb, .string xm, .slice XA na xca] 30)
      have e : (w1.alloc (.cells #[.int .i64 xk, .string xn, .int .i64 xa, .slice XB nc xcb, .string xm, .slice XA na xca] 30)).heap.size - 1 = w1.heap.size := by simp
      rw [e]
      have e2 : txnsCells [X] = (#[.int .i64 xk, .string xn, .int .i64 xa, .slice XB nc xcb, .string xm, .slice XA na xca] : Array Value).toList := by
        rw [HXX.out, HNA.out, HNC.out]; simp [txnsCells, TxnC.cells]
      rw [e2]
      exact h)
    have e : (w1.alloc (.cells #[.int .i64 xk, .string xn, .int .i64 xa, .slice XB nc xcb, .string xm, .slice XA na xca] 30)).heap.size - 1 = w1.heap.size := by simp
    rw [e, show [X].length = 1 from rfl] at hlx2
    have HL2 := Lib.hid hlx2
    have L2 := L1.below hb2 L1.lt
    have X2 := X1.below hb2 X1.lt
    have b2 := below_then b1 hb2 b1.size
    clear hlx2 e
    go_wp2_with fail
    refine HL2.out.mono ?_; rintro e w2 ⟨⟨b2', rfl, hbx⟩, hb⟩
    have L3 := L2.below hb L2.lt
    have X3 := X2.below hb X2.lt
    have b3 := below_then b2 hb b2.size
    have p0 := L3.cell 0; have p1 := L3.cell 1
    simp at p0 p1
    clear L1 X1 b1 hb2 L2 X2 b2 hb x0 x1 x2 x3 x4 x5
    cases b2' with
    | true =>
      go_wp2
      go_ret
      exact ⟨rfl, b3⟩
    | false =>
      have HBX := Lib.hid ((hbx rfl).2 X (by simp))
      clear hbx
      go_wp2_with fail
      refine (HTWIN.out _ b3 (by rw [HN.out]; exact HBB.out.1) HBB.out.2).mono ?_; rintro e w3 ⟨G, d, lt, rfl, hm, own3, hT3, hb⟩
      have L4 := L3.below hb L3.lt
      have X4 := X3.below hb X3.lt
      have b4 := below_then b3 hb b3.size
      have hw2 := b3.size
      clear L3 X3 b3 p0 p1 hb
      rw [← HN.out] at own3 ⊢
      go_wp2_with fail
      obtain ⟨D, hD⟩ : ∃ D, D = w3.heap.size := ⟨_, rfl⟩
      have bA := (Below.refl w3.heap.size w3).alloc (Nat.le_refl _) (.cells #[.int .i64 f, .slice (some ⟨G, 0, none⟩) N d] 24)
      have D5 := Loc.new w3 #[.int .i64 f, .slice (some ⟨G, 0, none⟩) N d] 24
      have L5 := L4.below bA L4.lt
      have X5 := X4.below bA X4.lt
      have b5 := below_then b4 bA b4.size
      have own5 := owns_mono' own3 bA
      have hT5 := fun y hy => (hT3 y hy).below bA
      clear L4 X4 b4 bA own3 hT3
      rw [← hD] at D5 ⊢
      have HD := Lib.hid hD
      generalize w3.alloc (.cells #[.int .i64 f, .slice (some ⟨G, 0, none⟩) N d] 24) = w4 at *
      clear hD
      have hm' := hm
      have hll : lt.length = N := by have := congrArg List.length hm; simp at this; rw [this, HN.out]
      have hlall := HBB.out
      have hcm := HCM.out
      have hfit : ∀ y ∈ l, y.fit := fun y hy => (hcm y hy).fit (hlall.2 y hy).1 (hlall.2 y hy).2
      have hfitt := fit_of hm hfit
      obtain ⟨r, hr⟩ : ∃ r, r = batCheck ⟨f, l.map (·.t)⟩ := ⟨_, rfl⟩
      have hck : ∀ W, Below w4.heap.size w4 W → Calls Try.prog 11 #[.agg #[.int .i64 f, .slice (some ⟨G, 0, none⟩) N d]] W fun e w' => e = .returned (.int .i64 r) ∧ Below W.heap.size W w' := fun W b => by
        have h := bcheck_any f lt (some ⟨G, 0, none⟩) d W (by have := (Row.of_owns own5).of_below b (Nat.le_refl _); rw [txnsCells_append] at this; exact this.fore) (fun y hy => ((hT5 y hy).below b).ok) hfitt (by have := hlall.1; have := HN.out; omega) HF.out
        rw [hm, hll, ← hr] at h
        exact h
      have b5' := b5
      have hrk : ∀ W, Below w4.heap.size w4 W → Calls Try.prog 12 #[.agg #[.int .i64 f, .slice A N cap]] W fun e w' => e = .returned (.int .i64 r) ∧ Below W.heap.size W w' := fun W b => by
        have bw := below_then b5' b b5'.size
        have h := rbcheck_any f l A cap W (HR.out.of_below bw (Nat.le_refl _)) (fun y hy => (hcm y hy).ok.below bw) hfit (by have := hlall.1; omega)
        rw [← HN.out, ← hr] at h
        exact h
      have hst : ∀ W, Below w4.heap.size w4 W → Calls Try.prog 13 #[.agg #[.int .i64 f, .slice (some ⟨G, 0, none⟩) N d], .agg #[.int .i64 f, .slice A N cap]] W fun e w' => e = .returned (.bool true) ∧ Below W.heap.size W w' := fun W b => by
        have bw := below_then b5' b b5'.size
        have h := bstands_any f l lt A cap G d w2.heap.size W (HR.out.of_below bw (Nat.le_refl _)) (fun y hy => (hcm y hy).ok.below bw) hlall.1 hlall.2 hfit hm (by rw [← HN.out]; exact owns_mono' own5 b) (fun y hy => (hT5 y hy).below b)
        rw [← HN.out] at h
        exact h
      have hss : ∀ W, Below w4.heap.size w4 W → W.cell? ⟨D, 0, none⟩ = some (.int .i64 f) ∧ W.cell? ⟨D, 1, none⟩ = some (.slice (some ⟨G, 0, none⟩) N d) ∧ W.cell? ⟨w.heap.size, 0, none⟩ = some (.int .i64 f) ∧ W.cell? ⟨w.heap.size, 1, none⟩ = some (.slice A N cap) := fun W b => by
        have hD := D5.below b D5.lt
        have hL := L5.below b L5.lt
        exact ⟨hD.cell 0, hD.cell 1, hL.cell 0, hL.cell 1⟩
      have HCK := Lib.hid hck
      have HRK := Lib.hid hrk
      have HST := Lib.hid hst
      have HSS := Lib.hid hss
      have HFIT := Lib.hid hfit
      have HM := Lib.hid hm
      have HT5 := Lib.hid hT5
      have hne : (r != r) = false := by simp
      clear hck hrk hst hss hfit hfitt hlall hcm hm hm' hT5 hr b5'
      go_region_held3 (fun W => W.cell? ⟨D, 0, none⟩ = some (.int .i64 f) ∧ W.cell? ⟨D, 1, none⟩ = some (.slice (some ⟨G, 0, none⟩) N d) ∧ W.cell? ⟨w.heap.size, 0, none⟩ = some (.int .i64 f) ∧ W.cell? ⟨w.heap.size, 1, none⟩ = some (.slice A N cap)) ((first | (with_reducible exact HSS.out _ d7) | (with_reducible exact HSS.out _ d6) | (with_reducible exact HSS.out _ d5) | exact HSS.out _ ((Below.refl w4.heap.size w4).drew) | exact HSS.out _ (Below.refl _ _))) ((first | (go_at_call 11; refine (HCK.out _ ((Below.refl _ _).drew)).mono ?_; rintro e w5 ⟨rfl, hb⟩; have d5 := below_then ((Below.refl w4.heap.size w4).drew) hb (Nat.le_refl _)) | (go_at_call 12; refine (HRK.out _ d5).mono ?_; rintro e w6 ⟨rfl, hb6⟩; have d6 := below_then d5 hb6 d5.size) | (go_at_call 13; refine (HST.out _ d6).mono ?_; rintro e w7 ⟨rfl, hb7⟩; have d7 := below_then d6 hb7 d6.size)))
      have hl7 := HSS.out _ d7
      obtain ⟨e0, e1, l0, l1⟩ := hl7
      by_cases hN0 : N = 0
      · subst hN0
        go_wp2_with fail
        refine (bknown_any _).mono ?_; rintro e w8 ⟨rfl, hb⟩
        go_wp2
        go_ret
        exact ⟨rfl, below_then (below_then b5 d7 b5.size) hb (below_then b5 d7 b5.size).size⟩
      · obtain ⟨k, hk, hcase⟩ := idx_case i N (by omega)
        have hkl : k < lt.length := by rw [hll]; exact hk
        have hN0' : ((N : Int) == 0) = false := by simp; omega
        rcases hcase with ⟨h1, h2⟩ | ⟨h1, h2⟩
        all_goals
          have hN3 : N ≤ 300 := by rw [HN.out]; exact HBB.out.1
          have hkI : (k : Int) < (N : Int) := by omega
          have hkI0 : (0 : Int) ≤ (k : Int) := by omega
          have hkI3 : (k : Int) < 300 := by omega
          have own7 := owns_mono' own5 d7
          have D7 := D5.below d7 D5.lt
          have X7 := X5.below d7 X5.lt
          have b7 := below_then b5 d7 b5.size
          have hT7 := fun y hy => (HT5.out y hy).below d7
          have hXc : X.came w := by rw [HXX.out]; exact HX.out
          have hfitX : X.fit := hXc.fit HBX.out.1 HBX.out.2
          have hfitl : ∀ y ∈ lt.set k X, y.fit := fun y hy => by
            rcases List.mem_or_eq_of_mem_set hy with h | h
            · exact fit_of HM.out HFIT.out y h
            · rw [h]; exact hfitX
          have hcx : X.cells = #[.int .i64 xk, .string xn, .int .i64 xa, .slice XB nc xcb, .string xm, .slice XA na xca] := by rw [HXX.out, HNA.out, HNC.out]; rfl
          have hcl : (txnsCells (lt ++ tmarks 5)).length = (N + 5) * 6 := by rw [txnsCells_length, List.length_append, hll]; rfl
          have hcap := owns_cap own7 (by omega)
          have y := fun j (hj : j < 6) => owns_cell own7 (k * 6 + j) (by omega)
          have hv : ∀ j (hj : j < 6), ∃ v, w7.cell? ⟨G, k * 6 + j, none⟩ = some v := fun j hj => by
            rw [(y j hj).1]
            exact ⟨_, List.getElem?_eq_getElem (by omega)⟩
          obtain ⟨v0, y0⟩ := hv 0 (by decide); obtain ⟨v1, y1⟩ := hv 1 (by decide); obtain ⟨v2, y2⟩ := hv 2 (by decide); obtain ⟨v3, y3⟩ := hv 3 (by decide); obtain ⟨v4, y4⟩ := hv 4 (by decide); obtain ⟨v5, y5⟩ := hv 5 (by decide)
          have f0 := (y 0 (by decide)).2; have f1 := (y 1 (by decide)).2; have f2 := (y 2 (by decide)).2; have f3 := (y 3 (by decide)).2; have f4 := (y 4 (by decide)).2; have f5 := (y 5 (by decide)).2
          simp only [Nat.add_zero] at y0 f0
          obtain ⟨x0, x1, x2, x3, x4, x5⟩ := loc_six X7
          have HO7 := Lib.hid own7
          have HD7 := Lib.hid D7
          have HB7 := Lib.hid b7
          have HT7 := Lib.hid hT7
          have HFL := Lib.hid hfitl
          have HXC := Lib.hid hXc
          have HCX := Lib.hid hcx
          have hGb : w.heap.size ≤ G := by omega
          clear hcl y hv hcap hcx own7 D7 b7 hT7 own5 D5 X5 b5 L5 d5 d6 d7 X7 hfitX hfitl hXc hw2
          go_wp2_with fail
          have o9 := owns_putT HO7.out k (by rw [List.length_append]; omega) X (.int .i64 xk) (.string xn) (.int .i64 xa) (.slice XB nc xcb) (.string xm) (.slice XA na xca) HCX.out
          rw [List.set_append_left _ _ hkl] at o9
          have D9 : Loc (putT w7 G k (.int .i64 xk) (.string xn) (.int .i64 xa) (.slice XB nc xcb) (.string xm) (.slice XA na xca)) D #[.int .i64 f, .slice (some ⟨G, 0, none⟩) N d] 24 := putT_loc HD7.out (by
            have := owns_ne HO7.out HD7.out (by decide)
            intro h
            exact this (by rw [h]; rfl))
          have b9 : Below w.heap.size w (putT w7 G k (.int .i64 xk) (.string xn) (.int .i64 xa) (.slice XB nc xcb) (.string xm) (.slice XA na xca)) := putT_below HB7.out hGb
          have T9 : ∀ y ∈ lt, Twin (putT w7 G k (.int .i64 xk) (.string xn) (.int .i64 xa) (.slice XB nc xcb) (.string xm) (.slice XA na xca)) w2.heap.size y := fun y hy => (HT7.out y hy).putT HO7.out
          clear y0 y1 y2 y3 y4 y5 f0 f1 f2 f3 f4 f5 x0 x1 x2 x3 x4 x5 e0 e1 l0 l1
          unfold putT at o9 D9 b9 T9
          generalize ((((((w7.setCell ⟨G, k * 6, none⟩ (.int .i64 xk)).setCell ⟨G, k * 6 + 1, none⟩ (.string xn)).setCell ⟨G, k * 6 + 2, none⟩ (.int .i64 xa)).setCell ⟨G, k * 6 + 3, none⟩ (.slice XB nc xcb)).setCell ⟨G, k * 6 + 4, none⟩ (.string xm)).setCell ⟨G, k * 6 + 5, none⟩ (.slice XA na xca)) = w9 at o9 D9 b9 T9 ⊢
          have hll2 : (lt.set k X).length = N := by rw [List.length_set]; exact hll
          obtain ⟨r2, hr2⟩ : ∃ r2, r2 = batCheck ⟨f, (lt.set k X).map (·.t)⟩ := ⟨_, rfl⟩
          have hok9 : ∀ W, Below w9.heap.size w9 W → ∀ y ∈ lt.set k X, y.ok W := fun W b y hy => by
            rcases List.mem_or_eq_of_mem_set hy with h | h
            · exact ((T9 y h).below b).ok
            · rw [h]; exact HXC.out.ok.below (below_then b9 b b9.size)
          have hr9 : ∀ W, Below w9.heap.size w9 W → Row W (some ⟨G, 0, none⟩) (txnsCells (lt.set k X)) := fun W b => by
            have h := (Row.of_owns o9).of_below b (Nat.le_refl _)
            rw [txnsCells_append] at h
            exact h.fore
          have hck : ∀ W, Below w9.heap.size w9 W → Calls Try.prog 11 #[.agg #[.int .i64 f, .slice (some ⟨G, 0, none⟩) N d]] W fun e w' => e = .returned (.int .i64 r2) ∧ Below W.heap.size W w' := fun W b => by
            have h := bcheck_any f (lt.set k X) (some ⟨G, 0, none⟩) d W (hr9 W b) (hok9 W b) HFL.out (by omega) HF.out
            rw [hll2, ← hr2] at h
            exact h
          have hrk : ∀ W, Below w9.heap.size w9 W → Calls Try.prog 12 #[.agg #[.int .i64 f, .slice (some ⟨G, 0, none⟩) N d]] W fun e w' => e = .returned (.int .i64 r2) ∧ Below W.heap.size W w' := fun W b => by
            have h := rbcheck_any f (lt.set k X) (some ⟨G, 0, none⟩) d W (hr9 W b) (hok9 W b) HFL.out (by omega)
            rw [hll2, ← hr2] at h
            exact h
          have hss : ∀ W, Below w9.heap.size w9 W → W.cell? ⟨D, 0, none⟩ = some (.int .i64 f) ∧ W.cell? ⟨D, 1, none⟩ = some (.slice (some ⟨G, 0, none⟩) N d) := fun W b => by
            have hD := D9.below b D9.lt
            exact ⟨hD.cell 0, hD.cell 1⟩
          have HCK9 := Lib.hid hck
          have HRK9 := Lib.hid hrk
          have HSS9 := Lib.hid hss
          have hne2 : (r2 == r2) = true := by simp
          clear hck hrk hss hok9 hr9 o9 T9 D9 hr2 hll2 HO7 HD7 HB7 HT7 HFL HXC HCX HCK HRK HST HSS hne
          go_region_held3 (fun W => W.cell? ⟨D, 0, none⟩ = some (.int .i64 f) ∧ W.cell? ⟨D, 1, none⟩ = some (.slice (some ⟨G, 0, none⟩) N d)) ((first | (with_reducible exact HSS9.out _ q7) | (with_reducible exact HSS9.out _ q6) | (with_reducible exact HSS9.out _ q5) | exact HSS9.out _ ((Below.refl w9.heap.size w9).drew) | exact HSS9.out _ (Below.refl _ _))) ((first | (go_at_call 11; refine (HCK9.out _ ((Below.refl _ _).drew)).mono ?_; rintro e u5 ⟨rfl, hb⟩; have q5 := below_then ((Below.refl w9.heap.size w9).drew) hb (Nat.le_refl _)) | (go_at_call 12; refine (HRK9.out _ q5).mono ?_; rintro e u6 ⟨rfl, hb6⟩; have q6 := below_then q5 hb6 q5.size) | (go_at_call 14; refine (bknown_any _).mono ?_; rintro e u7 ⟨rfl, hb7⟩; have q7 := below_then q6 hb7 q6.size)))
          go_wp2
          go_ret
          exact ⟨rfl, below_then b9 q7 b9.size⟩
end Go.Proofs.Ytnmcdifkknphgaa
