/- Walk of BatchBack. Printed by gen_bl.py from XBp, XBj. -/
import Derived.Test.YtnmcdifkknphgaaBq
import Derived.Test.YtnmcdifkknphgaaBg
import Derived.Test.YtnmcdifkknphgaaBo
import Derived.Test.YtnmcdifkknphgaaBr
import Derived.Test.YtnmcdifkknphgaaBj
namespace Go.Proofs.Ytnmcdifkknphgaa
open Go.RowKit

theorem batEncode_ok {b : Bat} {zs : Bs} (h : batEncode b = (zs, 0)) : batCheck b = 0 ∧ zs = batBytes b ∧ zs.length ≤ 65536 := by
  unfold batEncode at h
  by_cases h0 : batCheck b ≠ 0
  · rw [if_pos h0] at h
    exact absurd (congrArg Prod.snd h) h0
  · rw [if_neg h0] at h
    by_cases h1 : 65536 < (batBytes b).length
    · rw [if_pos h1] at h
      have := congrArg Prod.snd h
      simp at this
    · rw [if_neg h1] at h
      have := congrArg Prod.fst h
      simp only at this
      exact ⟨by simpa using h0, this.symm, by rw [← this]; omega⟩

theorem batEncode_dec {b : Bat} {zs : Bs} (h : batEncode b = (zs, 0)) (hn : b.num) : batDecode zs = (b, 0) := by
  obtain ⟨h1, h2, h3⟩ := batEncode_ok h
  have := bat_back h1 hn [] (by rw [List.append_nil, ← h2]; exact h3)
  rw [List.append_nil, if_pos rfl, ← h2] at this
  exact this

/-- Other batches, other bytes. -/
theorem bat_inj {a b : Bat} {zs ys : Bs} (h1 : batEncode a = (zs, 0)) (h2 : batEncode b = (ys, 0)) (n1 : a.num) (n2 : b.num) : zs = ys ↔ a = b := by
  constructor
  · intro h
    have e1 := batEncode_dec h1 n1
    have e2 := batEncode_dec h2 n2
    rw [h, e2] at e1
    exact (congrArg Prod.fst e1).symm
  · intro h
    rw [h, h2] at h1
    exact (congrArg Prod.fst h1).symm

theorem bat_num {f : Int} {l : List TxnC} {w : World} (h : ∀ x ∈ l, x.came w) : (⟨f, l.map (·.t)⟩ : Bat).num := fun t ht => by
  obtain ⟨x, hx, rfl⟩ := List.mem_map.1 ht
  exact ⟨fun y hy => ((h x hx).r.2 y hy).2.2.2.2.2.2, fun v hv => ((h x hx).v v hv).2⟩

theorem batEncode_long {b : Bat} {zs : Bs} (h0 : batCheck b = 0) (h : batEncode b = (zs, 4)) : zs = [] := by
  unfold batEncode at h
  rw [if_neg (by simp [h0])] at h
  split at h
  · exact (congrArg Prod.fst h).symm
  · have := congrArg Prod.snd h
    simp at this

theorem batEncode_snd {b : Bat} {zs : Bs} {z : Int} (h0 : batCheck b = 0) (h : batEncode b = (zs, z)) : z = 4 ∨ z = 0 := by
  unfold batEncode at h
  rw [if_neg (by simp [h0])] at h
  split at h
  · exact .inl (congrArg Prod.snd h).symm
  · exact .inr (congrArg Prod.snd h).symm

theorem batEncode_refused {b : Bat} {zs : Bs} {z : Int} (h0 : batCheck b ≠ 0) (h : batEncode b = (zs, z)) : zs = [] ∧ z = batCheck b := by
  unfold batEncode at h
  rw [if_pos h0] at h
  exact ⟨(congrArg Prod.fst h).symm, (congrArg Prod.snd h).symm⟩

set_option maxRecDepth 100000 in
set_option maxHeartbeats 4000000 in
theorem bback_any (f : Int) (l : List TxnC) (A : Option Addr) (cap : Nat) (x : TxnC) (i first : Int) (w : World) (hr : Row w A (txnsCells l)) (hcm : ∀ y ∈ l, y.came w) (hx : x.came w) (hf : i64R f) (hfirst : i64R first) :
    Calls Try.prog 6 #[.agg #[.int .i64 f, .slice A l.length cap], .agg x.cells, .int .i64 i, .int .i64 first] w fun e w' => e = .returned (.bool true) ∧ Below w.heap.size w w' := by
  have hlong := fun W (b : Below w.heap.size w W) => long_any f l A cap W (hr.of_below b (Nat.le_refl _))
  have htwin := fun W (b : Below w.heap.size w W) h3 ha => btwin_any f l A cap W (hr.of_below b (Nat.le_refl _)) (fun y hy => (hcm y hy).ok.below b) h3 ha
  have HF := Lib.hid hf
  have HFI := Lib.hid hfirst
  clear hfirst
  have HCM := Lib.hid hcm
  have HX := Lib.hid hx
  have HR := Lib.hid hr
  obtain ⟨X, hX⟩ : ∃ X, X = x := ⟨_, rfl⟩
  have HXX := Lib.hid hX
  obtain ⟨⟨xk, ⟨xn, xa, xc⟩, xm, xv⟩, XA, xca, XB, xcb⟩ := x
  have hlx := fun W (h : Row W (some ⟨W.heap.size - 1, 0, none⟩) (txnsCells [X])) => long_any 0 [X] (some ⟨W.heap.size - 1, 0, none⟩) 1 W h
  obtain ⟨N, hN⟩ : ∃ N, N = l.length := ⟨_, rfl⟩
  obtain ⟨na, hna⟩ : ∃ na, na = xv.length := ⟨_, rfl⟩
  obtain ⟨nc, hnc⟩ : ∃ nc, nc = xc.length := ⟨_, rfl⟩
  unfold TxnC.cells
  simp only
  rw [← hN] at hlong htwin ⊢
  rw [← hna, ← hnc]
  have HLONG := Lib.hid hlong
  have HTWIN := Lib.hid htwin
  have HLX := Lib.hid hlx
  have HN := Lib.hid hN
  have HNA := Lib.hid hna
  have HNC := Lib.hid hnc
  clear hlong htwin hlx hN hna hnc hf hcm hx hr hX
  go_enter Try.func6, Try.ntmps6
  have b0 : Below w.heap.size w ((w.alloc (.cells #[.int .i64 f, .slice A N cap] 24)).alloc (.cells #[.int .i64 xk, .string xn, .int .i64 xa, .slice XB nc xcb, .string xm, .slice XA na xca] 30)) := ((Below.refl w.heap.size w).alloc (Nat.le_refl _) _).alloc (by simp) _
  have L0 := (Loc.new w #[.int .i64 f, .slice A N cap] 24).alloc (.cells #[.int .i64 xk, .string xn, .int .i64 xa, .slice XB nc xcb, .string xm, .slice XA na xca] 30)
  have X0 := Loc.new (w.alloc (.cells #[.int .i64 f, .slice A N cap] 24)) #[.int .i64 xk, .string xn, .int .i64 xa, .slice XB nc xcb, .string xm, .slice XA na xca] 30
  simp only [World.size_alloc] at X0
  go_wp2_with fail
  refine (HLONG.out _ b0).mono ?_; rintro e w1 ⟨⟨bb, rfl, hbb⟩, hb⟩
  have L1 := L0.below hb L0.lt
  have X1 := X0.below hb X0.lt
  have b1 := below_then b0 hb b0.size
  clear L0 X0 b0 hb
  cases bb with
  | true =>
    go_wp2
    go_ret
    exact ⟨rfl, b1⟩
  | false =>
    have HBB := Lib.hid (hbb rfl)
    obtain ⟨x0, x1, x2, x3, x4, x5⟩ := loc_six X1
    clear hbb
    have hb2 := (Below.refl w1.heap.size w1).alloc (Nat.le_refl _) (.cells #[.int .i64 xk, .string xn, .int .i64 xa, .slice XB nc xcb, .string xm, .slice XA na xca] 30)
    have hlx2 := HLX.out (w1.alloc (.cells #[.int .i64 xk, .string xn, .int .i64 xa, .slice XB nc xcb, .string xm, .slice XA na xca] 30)) (by
      have h := Row.of_loc (Loc.new w1 #[.int .i64 xk, .string xn, .int .i64 xa, .slice XB nc xcb, .string xm, .slice XA na xca] 30)
      have e : (w1.alloc (.cells #[.int .i64 xk, .string xn, .int .i64 xa, .slice XB nc xcb, .string xm, .slice XA na xca] 30)).heap.size - 1 = w1.heap.size := by simp
      rw [e]
      have e2 : txnsCells [X] = (#[.int .i64 xk, .string xn, .int .i64 xa, .slice XB nc xcb, .string xm, .slice XA na xca] : Array Value).toList := by
        rw [HXX.out, HNA.out, HNC.out]; simp [txnsCells, TxnC.cells]
      rw [e2]
      exact h)
    have e : (w1.alloc (.cells #[.int .i64 xk, .string xn, .int .i64 xa, .slice XB nc xcb, .string xm, .slice XA na xca] 30)).heap.size - 1 = w1.heap.size := by simp
    rw [e, show [X].length = 1 from rfl] at hlx2
    have HL2 := Lib.hid hlx2
    have L2 := L1.below hb2 L1.lt
    have X2 := X1.below hb2 X1.lt
    have b2 := below_then b1 hb2 b1.size
    clear hlx2 e
    go_wp2_with fail
    refine HL2.out.mono ?_; rintro e w2 ⟨⟨b2', rfl, hbx⟩, hb⟩
    have L3 := L2.below hb L2.lt
    have X3 := X2.below hb X2.lt
    have b3 := below_then b2 hb b2.size
    have p0 := L3.cell 0; have p1 := L3.cell 1
    simp at p0 p1
    clear L1 X1 b1 hb2 L2 X2 b2 hb x0 x1 x2 x3 x4 x5
    cases b2' with
    | true =>
      go_wp2
      go_ret
      exact ⟨rfl, b3⟩
    | false =>
      have HBX := Lib.hid ((hbx rfl).2 X (by simp))
      clear hbx
      have hlall := HBB.out
      have hcm := HCM.out
      have hfit : ∀ y ∈ l, y.fit := fun y hy => (hcm y hy).fit (hlall.2 y hy).1 (hlall.2 y hy).2
      have hnum : ∀ y ∈ l, ∀ v ∈ y.t.args, i64v v := fun y hy => (hcm y hy).num
      have hbn : (⟨f, l.map (·.t)⟩ : Bat).num := bat_num hcm
      obtain ⟨r, hr⟩ : ∃ r, r = batCheck ⟨f, l.map (·.t)⟩ := ⟨_, rfl⟩
      obtain ⟨zs, z2, hz⟩ : ∃ zs z2, batEncode ⟨f, l.map (·.t)⟩ = (zs, z2) := ⟨_, _, rfl⟩
      have hzl : zs.length ≤ 65536 := by
        have := batEncode_le ⟨f, l.map (·.t)⟩
        rw [hz] at this
        exact this
      have hck : ∀ W, Below w.heap.size w W → Calls Try.prog 11 #[.agg #[.int .i64 f, .slice A N cap]] W fun e w' => e = .returned (.int .i64 r) ∧ Below W.heap.size W w' := fun W b => by
        have h := bcheck_any f l A cap W (HR.out.of_below b (Nat.le_refl _)) (fun y hy => (hcm y hy).ok.below b) hfit (by have := hlall.1; omega) HF.out
        rw [← HN.out, ← hr] at h
        exact h
      have hen : ∀ W, Below w.heap.size w W → Calls Try.prog 15 #[.agg #[.int .i64 f, .slice A N cap]] W fun e w' => ∃ A' c', e = .returned (.tuple #[.slice A' zs.length c', .int .i64 z2]) ∧ w'.ownsRow W.heap.size 5 1 (.slice A' zs.length c') zs.length (cellsB zs) ∧ Below W.heap.size W w' := fun W b => by
        have h := bencode_any f l A cap W (HR.out.of_below b (Nat.le_refl _)) (fun y hy => (hcm y hy).ok.below b) hfit hnum (by have := hlall.1; omega) HF.out
        rw [← HN.out, hz] at h
        exact h
      have HCK := Lib.hid hck
      have HEN := Lib.hid hen
      have HFIT := Lib.hid hfit
      have HNUM := Lib.hid hnum
      have HBN := Lib.hid hbn
      have HRR := Lib.hid hr
      have HZ := Lib.hid hz
      have X3r := X3
      clear hck hen hlall hcm hfit hnum hbn hr hz
      go_wp2_with fail
      refine (HCK.out _ b3).mono ?_; rintro e w3 ⟨rfl, hb⟩
      have L4 := L3.below hb L3.lt
      have X4 := X3.below hb X3.lt
      have b4 := below_then b3 hb b3.size
      clear L3 X3 b3 p0 p1 hb X3r
      have p0 := L4.cell 0; have p1 := L4.cell 1
      simp at p0 p1
      go_wp2_with fail
      refine (HEN.out _ b4).mono ?_; rintro e w4 ⟨A5, c5, rfl, q5, hb⟩
      have L5 := L4.below hb L4.lt
      have X5 := X4.below hb X4.lt
      have b5 := below_then b4 hb b4.size
      have q5' := owns_mono q5 b4.size
      clear L4 X4 b4 p0 p1 hb q5
      by_cases hr0 : r = 0
      · have hr0' : (r != 0) = false := by simp [hr0]
        have hrz := HRR.out.symm.trans hr0
        rcases batEncode_snd hrz HZ.out with h4 | h4
        · subst h4
          have hzn := batEncode_long hrz HZ.out
          subst hzn
          go_wp2_with fail
          refine (bknown_any _).mono ?_; rintro e w6 ⟨rfl, hb⟩
          go_wp2
          go_ret
          exact ⟨rfl, below_then b5 hb b5.size⟩
        · subst h4
          have hdec := batEncode_dec HZ.out HBN.out
          have HDEC := Lib.hid hdec
          clear hdec hrz
          go_wp2_with fail
          refine (bdecode_any A5 zs.length c5 zs _ (Row.of_owns q5') rfl (owns_none q5') (by omega)).mono ?_; rintro e w5 ⟨lc, LC, cc, hlc, rfl, ownC, hxc, hb⟩
          rw [HDEC.out] at hlc ⊢
          simp only at hlc ⊢
          have hllc : lc.length = N := by have := congrArg List.length hlc; simp at this; rw [this, HN.out]
          rw [hllc] at ownC ⊢
          have hfitc := fit_of hlc HFIT.out
          have L6 := L5.below hb L5.lt
          have X6 := X5.below hb X5.lt
          have b6 := below_then b5 hb b5.size
          have q6 := owns_mono' q5' hb
          clear L5 X5 b5 q5' hb
          obtain ⟨DC, hDC⟩ : ∃ DC, DC = w5.heap.size := ⟨_, rfl⟩
          have bA := (Below.refl w5.heap.size w5).alloc (Nat.le_refl _) (.cells #[.int .i64 f, .slice LC N cc] 24)
          have C7 := Loc.new w5 #[.int .i64 f, .slice LC N cc] 24
          have L7 := L6.below bA L6.lt
          have X7 := X6.below bA X6.lt
          have b7 := below_then b6 bA b6.size
          have q7 := owns_mono' q6 bA
          have ownC7 := owns_mono' ownC bA
          have hxc7 := fun y hy => (hxc y hy).below bA
          have hsm := fun W (b : Below (w5.alloc (.cells #[.int .i64 f, .slice LC N cc] 24)).heap.size (w5.alloc (.cells #[.int .i64 f, .slice LC N cc] 24)) W) => brefSame_any f f l lc A LC cap cc W (HR.out.of_below (below_then b7 b b7.size) (Nat.le_refl _)) (Row.of_owns (owns_mono' ownC7 b)) (by have := HBB.out.1; omega) (by have := HBB.out.1; have := HN.out; omega) (fun y hy => (HCM.out y hy).ok.below (below_then b7 b b7.size)) (fun y hy => ((hxc7 y hy).below b).ok) HFIT.out hfitc
          rw [hlc, hllc, ← HN.out] at hsm
          have HSM := Lib.hid hsm
          have l0 := L7.cell 0; have l1 := L7.cell 1; have t0 := C7.cell 0; have t1 := C7.cell 1
          simp at l0 l1 t0 t1
          clear L6 X6 b6 q6 ownC hxc ownC7 hxc7 hfitc hlc bA hsm C7
          go_wp2_with fail
          refine (HSM.out _ (Below.refl _ _)).mono ?_; rintro e w6 ⟨⟨res, rfl, hres⟩, hb⟩
          obtain rfl : res = true := hres.2 ⟨rfl, rfl⟩
          have L8 := L7.below hb L7.lt
          have X8 := X7.below hb X7.lt
          have b8 := below_then b7 hb b7.size
          have q8 := owns_mono' q7 hb
          have p0 := L8.cell 0; have p1 := L8.cell 1
          simp at p0 p1
          have hzI : ¬ (65536 : Int) < (zs.length : Int) := by omega
          clear L7 X7 b7 q7 hb l0 l1 t0 t1 hres HSM
          go_wp2_with fail
          refine (HTWIN.out _ b8 (by rw [HN.out]; exact HBB.out.1) HBB.out.2).mono ?_; rintro e w7 ⟨G, d, lt, rfl, hm, own3, hT3, hb⟩
          rw [← HN.out] at own3 ⊢
          have hw2 := b8.size
          have L9 := L8.below hb L8.lt
          have X9 := X8.below hb X8.lt
          have b9 := below_then b8 hb b8.size
          have q9 := owns_mono' q8 hb
          clear L8 X8 b8 q8 hb p0 p1
          have bA := (Below.refl w7.heap.size w7).alloc (Nat.le_refl _) (.cells #[.int .i64 first, .slice (some ⟨G, 0, none⟩) N d] 24)
          have D10 := Loc.new w7 #[.int .i64 first, .slice (some ⟨G, 0, none⟩) N d] 24
          have D9 := Loc.new w7 #[.int .i64 f, .slice (some ⟨G, 0, none⟩) N d] 24
          have df := D9.free 0
          go_upto_region 14 with (fail)
          have L10 := L9.below bA L9.lt
          have X10 := X9.below bA X9.lt
          have b10 := below_then b9 bA b9.size
          have q10 := owns_mono' q9 bA
          have own10 := owns_mono' own3 bA
          have hT10 := fun y hy => (hT3 y hy).below bA
          have L9lt := L9.lt
          clear L9 X9 b9 q9 own3 hT3 bA D9 df
          obtain ⟨D, hD⟩ : ∃ D, D = w7.heap.size := ⟨_, rfl⟩
          have hDw : w.heap.size < D := by rw [hD]; exact L9lt
          rw [← hD] at D10 ⊢
          generalize w7.alloc (.cells #[.int .i64 first, .slice (some ⟨G, 0, none⟩) N d] 24) = v8 at *
          clear hD L9lt
          have hll : lt.length = N := by have := congrArg List.length hm; simp at this; rw [this, HN.out]
          have hfitt := fit_of hm HFIT.out
          have hnumt := num_of hm HNUM.out
          obtain ⟨us, u2, hy⟩ : ∃ us u2, batEncode ⟨first, l.map (·.t)⟩ = (us, u2) := ⟨_, _, rfl⟩
          have hul : us.length ≤ 65536 := by
            have := batEncode_le ⟨first, l.map (·.t)⟩
            rw [hy] at this
            exact this
          have hen2 : ∀ W, Below v8.heap.size v8 W → Calls Try.prog 15 #[.agg #[.int .i64 first, .slice (some ⟨G, 0, none⟩) N d]] W fun e w' => ∃ A' c', e = .returned (.tuple #[.slice A' us.length c', .int .i64 u2]) ∧ w'.ownsRow W.heap.size 5 1 (.slice A' us.length c') us.length (cellsB us) ∧ Below W.heap.size W w' := fun W b => by
            have h := bencode_any first lt (some ⟨G, 0, none⟩) d W (by have := (Row.of_owns own10).of_below b (Nat.le_refl _); rw [txnsCells_append] at this; exact this.fore) (fun y hy => ((hT10 y hy).below b).ok) hfitt hnumt (by have := HBB.out.1; have := HN.out; omega) HFI.out
            rw [hm, hll, hy] at h
            exact h
          have HEN2 := Lib.hid hen2
          have HM := Lib.hid hm
          have HY := Lib.hid hy
          have HT10 := Lib.hid hT10
          have d0 := D10.cell 0; have d1 := D10.cell 1
          simp at d0 d1
          clear hfitt hnumt hen2 hm hy hT10
          go_wp2_with fail
          refine (HEN2.out _ (Below.refl _ _)).mono ?_; rintro e v9 ⟨A9, c9, rfl, p9, hb⟩
          have L11 := L10.below hb L10.lt
          have X11 := X10.below hb X10.lt
          have D11 := D10.below hb D10.lt
          have b11 := below_then b10 hb b10.size
          have q11 := owns_mono' q10 hb
          have own11 := owns_mono' own10 hb
          have hT11 := fun y hy => (HT10.out y hy).below hb
          clear L10 X10 D10 b10 q10 own10 HT10 hb d0 d1 HEN2
          have hs1 : ∀ W, Below v9.heap.size v9 W → W.cell? ⟨w.heap.size, 0, none⟩ = some (.int .i64 f) := fun W b => (L11.below b L11.lt).cell 0
          have hsame : ∀ W, Below v9.heap.size v9 W → Calls Try.prog 17 #[.slice A5 zs.length c5, .slice A9 us.length c9] W fun e w' => e = .returned (.bool (decide (zs = us))) ∧ Below W.heap.size W w' := fun W b =>
            same_any A5 A9 zs.length us.length c5 c9 zs us W (Row.of_owns (owns_mono' q11 b)) (Row.of_owns (owns_mono' p9 b)) rfl rfl (by omega) (by omega)
          have HS1 := Lib.hid hs1
          have HSAME := Lib.hid hsame
          have HT11 := Lib.hid hT11
          clear hs1 hsame p9 hT11
          have hN1 : ¬ N = 0 := by
            obtain ⟨_, ⟨h1, _⟩, _⟩ := batCheck_zero (HRR.out.symm.trans hr0)
            rw [List.length_map, ← HN.out] at h1
            omega
          have hcase1 : (u2 == 0) = false ∨ (u2 == 0) = true ∧ (∃ q, decide (zs = us) = q ∧ (first == f) = q) := by
            by_cases h : u2 = 0
            · refine .inr ⟨by simp [h], _, rfl, ?_⟩
              have h1 := HY.out
              rw [h] at h1
              have h2 := bat_inj HZ.out h1 HBN.out HBN.out
              have h4 : zs = us ↔ f = first := by rw [h2]; simp
              by_cases h3 : first = f
              · rw [decide_eq_true (h4.2 h3.symm)]
                simp [h3]
              · rw [decide_eq_false (fun h => h3 (h4.1 h).symm)]
                simpa using h3
            · exact .inl (by simpa using h)
          have HC1 := Lib.hid hcase1
          clear hcase1
          go_upto_region 15 with (fail)
          rcases HC1.out with hg | ⟨hg, q, hq1, hq2⟩
          · go_quiet (fail)
            have d5 := below_drewN (Below.refl v9.heap.size v9) nq
            generalize v9.drewN nq = v10 at d5 ⊢
            clear HSAME
            have L12 := L11.below d5 L11.lt
            have X12 := X11.below d5 X11.lt
            have D12 := D11.below d5 D11.lt
            have b12 := below_then b11 d5 b11.size
            have q12 := owns_mono' q11 d5
            have own12 := owns_mono' own11 d5
            have HT12 := Lib.hid (fun y hy => (HT11.out y hy).below d5)
            have l0 := L12.cell 0; have d0 := D12.cell 0; have df := D12.free 0
            simp at l0 d0
            clear L11 X11 D11 b11 q11 own11 HT11 d5 HS1 HC1 hg HY
            go_upto_region 18 with (fail)
            have D13 : Loc (v10.setCell ⟨D, 0, none⟩ (.int .i64 f)) D #[.int .i64 f, .slice (some ⟨G, 0, none⟩) N d] 24 := D12.set 0 (.int .i64 f)
            have L13 := L12.other (a := ⟨D, 0, none⟩) (by show w.heap.size ≠ D; omega) (.int .i64 f)
            have X13 := X12.other (a := ⟨D, 0, none⟩) (X12.ne D12 (by decide)) (.int .i64 f)
            have b13 := b12.setCell (p := ⟨D, 0, none⟩) (Nat.le_of_lt hDw) (.int .i64 f)
            have q13 := owns_setCell (a := ⟨D, 0, none⟩) q12 (owns_ne q12 D12 (by decide)) (.int .i64 f)
            have own13 := owns_setCell (a := ⟨D, 0, none⟩) own12 (owns_ne own12 D12 (by decide)) (.int .i64 f)
            have HT13 : Hid (∀ y ∈ lt, Twin (v10.setCell ⟨D, 0, none⟩ (.int .i64 f)) w6.heap.size y) := Lib.hid (fun y hy => (HT12.out y hy).set D12 (by decide) (by decide) 0 (.int .i64 f))
            clear L12 X12 D12 b12 q12 own12 HT12 l0 d0 df
            generalize v10.setCell ⟨D, 0, none⟩ (.int .i64 f) = v13 at *
            have l1 := L13.cell 1; have e1 := D13.cell 1
            simp at l1 e1
            have hN0 := hN1
            obtain ⟨k, hk, hcase⟩ := idx_case i N (by omega)
            have hkl : k < lt.length := by rw [hll]; exact hk
            have hN0' : ((N : Int) == 0) = false := by simp; omega
            rcases hcase with ⟨h1, h2⟩ | ⟨h1, h2⟩
            all_goals
              have hN3 : N ≤ 300 := by rw [HN.out]; exact HBB.out.1
              have hkI : (k : Int) < (N : Int) := by omega
              have hkI0 : (0 : Int) ≤ (k : Int) := by omega
              have hkI3 : (k : Int) < 300 := by omega
              have own7 := own13
              have D7 := D13
              have X7 := X13
              have b7 := b13
              have hT7 := fun y hy => HT13.out y hy
              have hXc : X.came w := by rw [HXX.out]; exact HX.out
              have hfitX : X.fit := hXc.fit HBX.out.1 HBX.out.2
              have hfitl : ∀ y ∈ lt.set k X, y.fit := fun y hy => by
                rcases List.mem_or_eq_of_mem_set hy with h | h
                · exact fit_of HM.out HFIT.out y h
                · rw [h]; exact hfitX
              have hcx : X.cells = #[.int .i64 xk, .string xn, .int .i64 xa, .slice XB nc xcb, .string xm, .slice XA na xca] := by rw [HXX.out, HNA.out, HNC.out]; rfl
              have hcl : (txnsCells (lt ++ tmarks 5)).length = (N + 5) * 6 := by rw [txnsCells_length, List.length_append, hll]; rfl
              have hcap := owns_cap own7 (by omega)
              have y := fun j (hj : j < 6) => owns_cell own7 (k * 6 + j) (by omega)
              have hv : ∀ j (hj : j < 6), ∃ v, v13.cell? ⟨G, k * 6 + j, none⟩ = some v := fun j hj => by
                rw [(y j hj).1]
                exact ⟨_, List.getElem?_eq_getElem (by omega)⟩
              obtain ⟨v0, y0⟩ := hv 0 (by decide); obtain ⟨v1, y1⟩ := hv 1 (by decide); obtain ⟨v2, y2⟩ := hv 2 (by decide); obtain ⟨v3, y3⟩ := hv 3 (by decide); obtain ⟨v4, y4⟩ := hv 4 (by decide); obtain ⟨v5, y5⟩ := hv 5 (by decide)
              have f0 := (y 0 (by decide)).2; have f1 := (y 1 (by decide)).2; have f2 := (y 2 (by decide)).2; have f3 := (y 3 (by decide)).2; have f4 := (y 4 (by decide)).2; have f5 := (y 5 (by decide)).2
              simp only [Nat.add_zero] at y0 f0
              obtain ⟨x0, x1, x2, x3, x4, x5⟩ := loc_six X7
              have hnumX : ∀ y ∈ lt.set k X, ∀ v ∈ y.t.args, i64v v := fun y hy => by
                rcases List.mem_or_eq_of_mem_set hy with h | h
                · exact num_of HM.out HNUM.out y h
                · rw [h]; exact hXc.num
              have HNX := Lib.hid hnumX
              have HQ5 := Lib.hid q13
              have HO7 := Lib.hid own7
              have HD7 := Lib.hid D7
              have HB7 := Lib.hid b7
              have HT7 := Lib.hid hT7
              have HFL := Lib.hid hfitl
              have HXC := Lib.hid hXc
              have HCX := Lib.hid hcx
              have hGb : w.heap.size ≤ G := by omega
              have HL13 := Lib.hid L13
              clear hcl y hv hcap hcx own7 D7 b7 hT7 own13 D13 X13 b13 L13 X7 hfitX hfitl hXc hw2 hnumX q13
              go_upto_region 22 with (fail)
              have o9 := owns_putT HO7.out k (by rw [List.length_append]; omega) X (.int .i64 xk) (.string xn) (.int .i64 xa) (.slice XB nc xcb) (.string xm) (.slice XA na xca) HCX.out
              rw [List.set_append_left _ _ hkl] at o9
              have D9 : Loc (putT v13 G k (.int .i64 xk) (.string xn) (.int .i64 xa) (.slice XB nc xcb) (.string xm) (.slice XA na xca)) D #[.int .i64 f, .slice (some ⟨G, 0, none⟩) N d] 24 := putT_loc HD7.out (by
                have := owns_ne HO7.out HD7.out (by decide)
                intro h
                exact this (by rw [h]; rfl))
              have b9 : Below w.heap.size w (putT v13 G k (.int .i64 xk) (.string xn) (.int .i64 xa) (.slice XB nc xcb) (.string xm) (.slice XA na xca)) := putT_below HB7.out hGb
              have T9 : ∀ y ∈ lt, Twin (putT v13 G k (.int .i64 xk) (.string xn) (.int .i64 xa) (.slice XB nc xcb) (.string xm) (.slice XA na xca)) w6.heap.size y := fun y hy => (HT7.out y hy).putT HO7.out
              have Q5 : (putT v13 G k (.int .i64 xk) (.string xn) (.int .i64 xa) (.slice XB nc xcb) (.string xm) (.slice XA na xca)).ownsRow w.heap.size 5 1 (.slice A5 zs.length c5) zs.length (cellsB zs) := bytes_putT HQ5.out HO7.out
              have L9 : Loc (putT v13 G k (.int .i64 xk) (.string xn) (.int .i64 xa) (.slice XB nc xcb) (.string xm) (.slice XA na xca)) w.heap.size #[.int .i64 f, .slice A N cap] 24 := putT_loc HL13.out (by
                have := owns_ne HO7.out HL13.out (by decide)
                intro h
                exact this (by rw [h]; rfl))
              clear y0 y1 y2 y3 y4 y5 f0 f1 f2 f3 f4 f5 x0 x1 x2 x3 x4 x5 e1 l1
              unfold putT at o9 D9 b9 T9 Q5 L9
              generalize ((((((v13.setCell ⟨G, k * 6, none⟩ (.int .i64 xk)).setCell ⟨G, k * 6 + 1, none⟩ (.string xn)).setCell ⟨G, k * 6 + 2, none⟩ (.int .i64 xa)).setCell ⟨G, k * 6 + 3, none⟩ (.slice XB nc xcb)).setCell ⟨G, k * 6 + 4, none⟩ (.string xm)).setCell ⟨G, k * 6 + 5, none⟩ (.slice XA na xca)) = w9 at o9 D9 b9 T9 Q5 L9 ⊢
              have hll2 : (lt.set k X).length = N := by rw [List.length_set]; exact hll
              obtain ⟨ns, n2, hns⟩ : ∃ ns n2, batEncode ⟨f, (lt.set k X).map (·.t)⟩ = (ns, n2) := ⟨_, _, rfl⟩
              have hnl : ns.length ≤ 65536 := by
                have := batEncode_le ⟨f, (lt.set k X).map (·.t)⟩
                rw [hns] at this
                exact this
              have hok9 : ∀ W, Below w9.heap.size w9 W → ∀ y ∈ lt.set k X, y.ok W := fun W b y hy => by
                rcases List.mem_or_eq_of_mem_set hy with h | h
                · exact ((T9 y h).below b).ok
                · rw [h]; exact HXC.out.ok.below (below_then b9 b b9.size)
              have hr9 : ∀ W, Below w9.heap.size w9 W → Row W (some ⟨G, 0, none⟩) (txnsCells (lt.set k X)) := fun W b => by
                have h := (Row.of_owns o9).of_below b (Nat.le_refl _)
                rw [txnsCells_append] at h
                exact h.fore
              have hen : ∀ W, Below w9.heap.size w9 W → Calls Try.prog 15 #[.agg #[.int .i64 f, .slice (some ⟨G, 0, none⟩) N d]] W fun e w' => ∃ A' c', e = .returned (.tuple #[.slice A' ns.length c', .int .i64 n2]) ∧ w'.ownsRow W.heap.size 5 1 (.slice A' ns.length c') ns.length (cellsB ns) ∧ Below W.heap.size W w' := fun W b => by
                have h := bencode_any f (lt.set k X) (some ⟨G, 0, none⟩) d W (hr9 W b) (hok9 W b) HFL.out HNX.out (by omega) HF.out
                rw [hll2, hns] at h
                exact h
              have hok20 := hok9
              have HEN9 := Lib.hid hen
              have e0 := D9.cell 0; have e1 := D9.cell 1; have l0 := L9.cell 0; have l1 := L9.cell 1
              simp at e0 e1 l0 l1
              clear hen
              go_wp2_with fail
              refine (HEN9.out _ (Below.refl _ _)).mono ?_; rintro e u10 ⟨A10, c10, rfl, p10, hb⟩
              have hs4 : ∀ W, Below u10.heap.size u10 W → W.cell? ⟨D, 0, none⟩ = some (.int .i64 f) ∧ W.cell? ⟨D, 1, none⟩ = some (.slice (some ⟨G, 0, none⟩) N d) ∧ W.cell? ⟨w.heap.size, 0, none⟩ = some (.int .i64 f) ∧ W.cell? ⟨w.heap.size, 1, none⟩ = some (.slice A N cap) := fun W b => by
                have hb2 := below_then hb b hb.size
                have hD := D9.below hb2 D9.lt
                have hL := L9.below hb2 L9.lt
                exact ⟨hD.cell 0, hD.cell 1, hL.cell 0, hL.cell 1⟩
              have hsq : ∀ W, Below u10.heap.size u10 W → Calls Try.prog 17 #[.slice A5 zs.length c5, .slice A10 ns.length c10] W fun e w' => e = .returned (.bool (decide (zs = ns))) ∧ Below W.heap.size W w' := fun W b =>
                same_any A5 A10 zs.length ns.length c5 c10 zs ns W (Row.of_owns (owns_mono' (owns_mono' Q5 hb) b)) (Row.of_owns (owns_mono' p10 b)) rfl rfl (by omega) (by omega)
              have hsb : ∀ W, Below u10.heap.size u10 W → Calls Try.prog 20 #[.agg #[.int .i64 f, .slice (some ⟨G, 0, none⟩) N d], .agg #[.int .i64 f, .slice A N cap]] W fun e w' => BSame f f ((lt.set k X).map (·.t)) (l.map (·.t)) e ∧ Below W.heap.size W w' := fun W b => by
                have hb2 := below_then hb b hb.size
                have hb3 := below_then b9 hb2 b9.size
                have h := brefSame_any f f (lt.set k X) l (some ⟨G, 0, none⟩) A d cap W (hr9 W hb2) (HR.out.of_below hb3 (Nat.le_refl _)) (by omega) (by have := HBB.out.1; omega) (hok20 W hb2) (fun y hy => (HCM.out y hy).ok.below hb3) HFL.out HFIT.out
                rw [hll2, ← HN.out] at h
                exact h
              have hcase2 : (n2 != 0) = true ∨ (n2 != 0) = false ∧ (zs = ns ↔ (lt.set k X).map (·.t) = l.map (·.t)) := by
                by_cases h : n2 = 0
                · refine .inr ⟨by simp [h], ?_⟩
                  have h1 := hns
                  rw [h] at h1
                  have hbn2 : (⟨f, (lt.set k X).map (·.t)⟩ : Bat).num := fun t ht => by
                    obtain ⟨y, hy, rfl⟩ := List.mem_map.1 ht
                    rcases List.mem_or_eq_of_mem_set hy with h2 | h2
                    · have h3 : y.t ∈ l.map (·.t) := by rw [← HM.out]; exact List.mem_map_of_mem h2
                      exact HBN.out y.t h3
                    · rw [h2]
                      exact bat_num (f := f) (l := [X]) (fun z hz => by rw [List.mem_singleton] at hz; rw [hz]; exact HXC.out) X.t (by simp)
                  rw [bat_inj HZ.out h1 HBN.out hbn2]
                  simp only [Bat.mk.injEq, true_and]
                  exact eq_comm
                · exact .inl (by simpa using h)
              have HC2 := Lib.hid hcase2
              have HS4 := Lib.hid hs4
              have HSQ := Lib.hid hsq
              have HSB := Lib.hid hsb
              have bz := below_then b9 hb b9.size
              clear e0 e1 l0 l1 hb p10 hs4 hsq hsb hcase2 hok20 hok9 hr9 o9 T9 D9 L9 hns hll2 HO7 HD7 HB7 HT7 HFL HXC HCX HEN9 HQ5 HNX HL13 Q5 HT13 b9
              go_upto_region 23 with (fail)
              rcases HC2.out with hg | ⟨hg, hiff⟩
              · refine wp_region_held_drew (S := fun W => W.cell? ⟨D, 0, none⟩ = some (.int .i64 f) ∧ W.cell? ⟨D, 1, none⟩ = some (.slice (some ⟨G, 0, none⟩) N d) ∧ W.cell? ⟨w.heap.size, 0, none⟩ = some (.int .i64 f) ∧ W.cell? ⟨w.heap.size, 1, none⟩ = some (.slice A N cap)) (by kernel_rfl) (HS4.out _ ((Below.refl u10.heap.size u10).drew)) (fun hH => ?_)
                refine take_at1 0 122 (v := ?_) rfl rfl (by kernel_rfl) (by kernel_rfl) (by kernel_rfl) (fun _ _ _ h => h) (Or.inl ⟨by rfl, ?_⟩) hH ?_
                rotate_left
                · intro W hW
                  obtain ⟨e0, e1, l0, l1⟩ := hW
                  go_simp
                  try with_reducible rfl
                try simp only [Act.put, List.setIfInBounds_toArray, List.set_cons_zero, List.set_cons_succ]
                refine take_at1 1 123 (v := ?_) rfl rfl (by kernel_rfl) (by kernel_rfl) (by kernel_rfl) (fun _ _ _ h => h) (Or.inl ⟨by rfl, ?_⟩) hH ?_
                rotate_left
                · intro W hW
                  obtain ⟨e0, e1, l0, l1⟩ := hW
                  go_simp
                  try with_reducible rfl
                try simp only [Act.put, List.setIfInBounds_toArray, List.set_cons_zero, List.set_cons_succ]
                refine take_at1 2 124 (v := ?_) rfl rfl (by kernel_rfl) (by kernel_rfl) (by kernel_rfl) (fun _ _ _ h => h) (Or.inl ⟨by rfl, ?_⟩) hH ?_
                rotate_left
                · intro W hW
                  obtain ⟨e0, e1, l0, l1⟩ := hW
                  go_simp
                  try with_reducible rfl
                try simp only [Act.put, List.setIfInBounds_toArray, List.set_cons_zero, List.set_cons_succ]
                refine take_at1 3 125 rfl rfl (by kernel_rfl) (by kernel_rfl) (by kernel_rfl) (fun _ _ _ h => h) (Or.inr ⟨by rfl, rfl⟩) hH ?_
                try simp only [Act.put, List.setIfInBounds_toArray, List.set_cons_zero, List.set_cons_succ]
                refine take_at1 4 126 rfl rfl (by kernel_rfl) (by kernel_rfl) (by kernel_rfl) (fun _ _ _ h => h) (Or.inr ⟨by rfl, rfl⟩) hH ?_
                try simp only [Act.put, List.setIfInBounds_toArray, List.set_cons_zero, List.set_cons_succ]
                refine take_at1 5 127 rfl rfl (by kernel_rfl) (by kernel_rfl) (by kernel_rfl) (fun _ _ _ h => h) (Or.inr ⟨by rfl, rfl⟩) hH ?_
                try simp only [Act.put, List.setIfInBounds_toArray, List.set_cons_zero, List.set_cons_succ]
                refine take_at1 6 128 rfl rfl (by kernel_rfl) (by kernel_rfl) (by kernel_rfl) (fun _ _ _ h => h) (Or.inr ⟨by rfl, rfl⟩) hH ?_
                try simp only [Act.put, List.setIfInBounds_toArray, List.set_cons_zero, List.set_cons_succ]
                refine take_at1 7 129 rfl rfl (by kernel_rfl) (by kernel_rfl) (by kernel_rfl) (fun _ _ _ h => h) (Or.inr ⟨by rfl, rfl⟩) hH ?_
                try simp only [Act.put, List.setIfInBounds_toArray, List.set_cons_zero, List.set_cons_succ]
                refine take_at1 8 130 rfl rfl (by kernel_rfl) (by kernel_rfl) (by kernel_rfl) (fun _ _ _ h => h) (Or.inr ⟨by rfl, rfl⟩) hH ?_
                try simp only [Act.put, List.setIfInBounds_toArray, List.set_cons_zero, List.set_cons_succ]
                refine take_at1 9 131 rfl rfl (by kernel_rfl) (by kernel_rfl) (by kernel_rfl) (fun _ _ _ h => h) (Or.inr ⟨by rfl, rfl⟩) hH ?_
                try simp only [Act.put, List.setIfInBounds_toArray, List.set_cons_zero, List.set_cons_succ]
                refine take_at1 10 132 (v := ?_) rfl rfl (by kernel_rfl) (by kernel_rfl) (by kernel_rfl) (fun _ _ _ h => h) (Or.inl ⟨by rfl, ?_⟩) hH ?_
                rotate_left
                · intro W hW
                  obtain ⟨e0, e1, l0, l1⟩ := hW
                  go_simp
                  try with_reducible rfl
                try simp only [Act.put, List.setIfInBounds_toArray, List.set_cons_zero, List.set_cons_succ]
                refine take_at1 11 133 (v := ?_) rfl rfl (by kernel_rfl) (by kernel_rfl) (by kernel_rfl) (fun _ _ _ h => h) (Or.inl ⟨by rfl, ?_⟩) hH ?_
                rotate_left
                · intro W hW
                  obtain ⟨e0, e1, l0, l1⟩ := hW
                  go_simp
                  try with_reducible rfl
                try simp only [Act.put, List.setIfInBounds_toArray, List.set_cons_zero, List.set_cons_succ]
                refine wpAnyH_ready (rs := [12]) (by kernel_rfl) (by simp) ?_
                refine AllReadyH.cons rfl (fun K hK => ?_) AllReadyH.nil
                go_simp
                refine (bknown_any _).mono ?_; rintro e u7 ⟨rfl, hb7⟩
                have z7 := below_then ((Below.refl u10.heap.size u10).drew) hb7 (Nat.le_refl _)
                refine hK.out _ _ (HS4.out _ z7) (fun hH2 => ?_)
                clear hK K
                try simp only [Act.put, List.setIfInBounds_toArray, List.set_cons_zero, List.set_cons_succ]
                refine take_at1 13 135 (v := ?_) rfl rfl (by kernel_rfl) (by kernel_rfl) (by kernel_rfl) (fun _ _ _ h => h) (Or.inl ⟨by rfl, ?_⟩) hH2 ?_
                rotate_left
                · intro W hW
                  obtain ⟨e0, e1, l0, l1⟩ := hW
                  go_simp
                  try with_reducible rfl
                try simp only [Act.put, List.setIfInBounds_toArray, List.set_cons_zero, List.set_cons_succ]
                refine take_at1 14 8 (v := ?_) rfl rfl (by kernel_rfl) (by kernel_rfl) (by kernel_rfl) (fun _ _ _ h => h) (Or.inl ⟨by rfl, ?_⟩) hH2 ?_
                rotate_left
                · intro W hW
                  obtain ⟨e0, e1, l0, l1⟩ := hW
                  go_simp
                  try with_reducible rfl
                try simp only [Act.put, List.setIfInBounds_toArray, List.set_cons_zero, List.set_cons_succ]
                refine wpAnyH_done (by kernel_rfl) ?_ _
                go_wp2
                go_ret
                exact ⟨rfl, below_then bz z7 bz.size⟩
              · obtain ⟨q, hq⟩ : ∃ q, q = decide (zs = ns) := ⟨_, rfl⟩
                have hsq2 : ∀ W, Below u10.heap.size u10 W → Calls Try.prog 17 #[.slice A5 zs.length c5, .slice A10 ns.length c10] W fun e w' => e = .returned (.bool q) ∧ Below W.heap.size W w' := fun W b => by
                  rw [hq]
                  exact HSQ.out W b
                have hsb2 : ∀ W, Below u10.heap.size u10 W → Calls Try.prog 20 #[.agg #[.int .i64 f, .slice (some ⟨G, 0, none⟩) N d], .agg #[.int .i64 f, .slice A N cap]] W fun e w' => e = .returned (.bool q) ∧ Below W.heap.size W w' := fun W b => by
                  refine (HSB.out W b).mono ?_
                  rintro e w' ⟨⟨res, rfl, hres⟩, hb⟩
                  have : res = q := by
                    rw [hq, Bool.eq_iff_iff, hres, decide_eq_true_iff, hiff]
                    simp
                  rw [this]
                  exact ⟨rfl, hb⟩
                have hqq : (q == q) = true := by simp
                have HSQ2 := Lib.hid hsq2
                have HSB2 := Lib.hid hsb2
                clear hsq2 hsb2 hq hiff HSQ HSB HC2
                go_region_held3 (fun W => W.cell? ⟨D, 0, none⟩ = some (.int .i64 f) ∧ W.cell? ⟨D, 1, none⟩ = some (.slice (some ⟨G, 0, none⟩) N d) ∧ W.cell? ⟨w.heap.size, 0, none⟩ = some (.int .i64 f) ∧ W.cell? ⟨w.heap.size, 1, none⟩ = some (.slice A N cap)) ((first | (with_reducible exact HS4.out _ z7) | (with_reducible exact HS4.out _ z6) | (with_reducible exact HS4.out _ z5) | exact HS4.out _ ((Below.refl u10.heap.size u10).drew) | exact HS4.out _ (Below.refl _ _))) ((first | (go_at_call 17; refine (HSQ2.out _ ((Below.refl _ _).drew)).mono ?_; rintro e u5 ⟨rfl, hb⟩; have z5 := below_then ((Below.refl u10.heap.size u10).drew) hb (Nat.le_refl _)) | (go_at_call 20; refine (HSB2.out _ z5).mono ?_; rintro e u6 ⟨rfl, hb6⟩; have z6 := below_then z5 hb6 z5.size) | (go_at_call 14; refine (bknown_any _).mono ?_; rintro e u7 ⟨rfl, hb7⟩; have z7 := below_then z6 hb7 z6.size)))
                go_wp2
                go_ret
                exact ⟨rfl, below_then bz z7 bz.size⟩
          · have hqq : (q != q) = false := by simp
            have hsame2 : ∀ W, Below v9.heap.size v9 W → Calls Try.prog 17 #[.slice A5 zs.length c5, .slice A9 us.length c9] W fun e w' => e = .returned (.bool q) ∧ Below W.heap.size W w' := fun W b => by
              have h := HSAME.out W b
              rw [hq1] at h
              exact h
            have HSAME2 := Lib.hid hsame2
            clear hsame2 hq1
            go_region_held3 (fun W => W.cell? ⟨w.heap.size, 0, none⟩ = some (.int .i64 f)) ((first | (with_reducible exact HS1.out _ d5) | exact HS1.out _ ((Below.refl v9.heap.size v9).drew) | exact HS1.out _ (Below.refl _ _))) ((go_at_call 17; refine (HSAME2.out _ ((Below.refl _ _).drew)).mono ?_; rintro e v10 ⟨rfl, hb⟩; have d5 := below_then ((Below.refl v9.heap.size v9).drew) hb (Nat.le_refl _)))
            clear HSAME HSAME2 hb hqq hq2
            have L12 := L11.below d5 L11.lt
            have X12 := X11.below d5 X11.lt
            have D12 := D11.below d5 D11.lt
            have b12 := below_then b11 d5 b11.size
            have q12 := owns_mono' q11 d5
            have own12 := owns_mono' own11 d5
            have HT12 := Lib.hid (fun y hy => (HT11.out y hy).below d5)
            have l0 := L12.cell 0; have d0 := D12.cell 0; have df := D12.free 0
            simp at l0 d0
            clear L11 X11 D11 b11 q11 own11 HT11 d5 HS1 HC1 hg HY
            go_upto_region 18 with (fail)
            have D13 : Loc (v10.setCell ⟨D, 0, none⟩ (.int .i64 f)) D #[.int .i64 f, .slice (some ⟨G, 0, none⟩) N d] 24 := D12.set 0 (.int .i64 f)
            have L13 := L12.other (a := ⟨D, 0, none⟩) (by show w.heap.size ≠ D; omega) (.int .i64 f)
            have X13 := X12.other (a := ⟨D, 0, none⟩) (X12.ne D12 (by decide)) (.int .i64 f)
            have b13 := b12.setCell (p := ⟨D, 0, none⟩) (Nat.le_of_lt hDw) (.int .i64 f)
            have q13 := owns_setCell (a := ⟨D, 0, none⟩) q12 (owns_ne q12 D12 (by decide)) (.int .i64 f)
            have own13 := owns_setCell (a := ⟨D, 0, none⟩) own12 (owns_ne own12 D12 (by decide)) (.int .i64 f)
            have HT13 : Hid (∀ y ∈ lt, Twin (v10.setCell ⟨D, 0, none⟩ (.int .i64 f)) w6.heap.size y) := Lib.hid (fun y hy => (HT12.out y hy).set D12 (by decide) (by decide) 0 (.int .i64 f))
            clear L12 X12 D12 b12 q12 own12 HT12 l0 d0 df
            generalize v10.setCell ⟨D, 0, none⟩ (.int .i64 f) = v13 at *
            have l1 := L13.cell 1; have e1 := D13.cell 1
            simp at l1 e1
            have hN0 := hN1
            obtain ⟨k, hk, hcase⟩ := idx_case i N (by omega)
            have hkl : k < lt.length := by rw [hll]; exact hk
            have hN0' : ((N : Int) == 0) = false := by simp; omega
            rcases hcase with ⟨h1, h2⟩ | ⟨h1, h2⟩
            all_goals
              have hN3 : N ≤ 300 := by rw [HN.out]; exact HBB.out.1
              have hkI : (k : Int) < (N : Int) := by omega
              have hkI0 : (0 : Int) ≤ (k : Int) := by omega
              have hkI3 : (k : Int) < 300 := by omega
              have own7 := own13
              have D7 := D13
              have X7 := X13
              have b7 := b13
              have hT7 := fun y hy => HT13.out y hy
              have hXc : X.came w := by rw [HXX.out]; exact HX.out
              have hfitX : X.fit := hXc.fit HBX.out.1 HBX.out.2
              have hfitl : ∀ y ∈ lt.set k X, y.fit := fun y hy => by
                rcases List.mem_or_eq_of_mem_set hy with h | h
                · exact fit_of HM.out HFIT.out y h
                · rw [h]; exact hfitX
              have hcx : X.cells = #[.int .i64 xk, .string xn, .int .i64 xa, .slice XB nc xcb, .string xm, .slice XA na xca] := by rw [HXX.out, HNA.out, HNC.out]; rfl
              have hcl : (txnsCells (lt ++ tmarks 5)).length = (N + 5) * 6 := by rw [txnsCells_length, List.length_append, hll]; rfl
              have hcap := owns_cap own7 (by omega)
              have y := fun j (hj : j < 6) => owns_cell own7 (k * 6 + j) (by omega)
              have hv : ∀ j (hj : j < 6), ∃ v, v13.cell? ⟨G, k * 6 + j, none⟩ = some v := fun j hj => by
                rw [(y j hj).1]
                exact ⟨_, List.getElem?_eq_getElem (by omega)⟩
              obtain ⟨v0, y0⟩ := hv 0 (by decide); obtain ⟨v1, y1⟩ := hv 1 (by decide); obtain ⟨v2, y2⟩ := hv 2 (by decide); obtain ⟨v3, y3⟩ := hv 3 (by decide); obtain ⟨v4, y4⟩ := hv 4 (by decide); obtain ⟨v5, y5⟩ := hv 5 (by decide)
              have f0 := (y 0 (by decide)).2; have f1 := (y 1 (by decide)).2; have f2 := (y 2 (by decide)).2; have f3 := (y 3 (by decide)).2; have f4 := (y 4 (by decide)).2; have f5 := (y 5 (by decide)).2
              simp only [Nat.add_zero] at y0 f0
              obtain ⟨x0, x1, x2, x3, x4, x5⟩ := loc_six X7
              have hnumX : ∀ y ∈ lt.set k X, ∀ v ∈ y.t.args, i64v v := fun y hy => by
                rcases List.mem_or_eq_of_mem_set hy with h | h
                · exact num_of HM.out HNUM.out y h
                · rw [h]; exact hXc.num
              have HNX := Lib.hid hnumX
              have HQ5 := Lib.hid q13
              have HO7 := Lib.hid own7
              have HD7 := Lib.hid D7
              have HB7 := Lib.hid b7
              have HT7 := Lib.hid hT7
              have HFL := Lib.hid hfitl
              have HXC := Lib.hid hXc
              have HCX := Lib.hid hcx
              have hGb : w.heap.size ≤ G := by omega
              have HL13 := Lib.hid L13
              clear hcl y hv hcap hcx own7 D7 b7 hT7 own13 D13 X13 b13 L13 X7 hfitX hfitl hXc hw2 hnumX q13
              go_upto_region 22 with (fail)
              have o9 := owns_putT HO7.out k (by rw [List.length_append]; omega) X (.int .i64 xk) (.string xn) (.int .i64 xa) (.slice XB nc xcb) (.string xm) (.slice XA na xca) HCX.out
              rw [List.set_append_left _ _ hkl] at o9
              have D9 : Loc (putT v13 G k (.int .i64 xk) (.string xn) (.int .i64 xa) (.slice XB nc xcb) (.string xm) (.slice XA na xca)) D #[.int .i64 f, .slice (some ⟨G, 0, none⟩) N d] 24 := putT_loc HD7.out (by
                have := owns_ne HO7.out HD7.out (by decide)
                intro h
                exact this (by rw [h]; rfl))
              have b9 : Below w.heap.size w (putT v13 G k (.int .i64 xk) (.string xn) (.int .i64 xa) (.slice XB nc xcb) (.string xm) (.slice XA na xca)) := putT_below HB7.out hGb
              have T9 : ∀ y ∈ lt, Twin (putT v13 G k (.int .i64 xk) (.string xn) (.int .i64 xa) (.slice XB nc xcb) (.string xm) (.slice XA na xca)) w6.heap.size y := fun y hy => (HT7.out y hy).putT HO7.out
              have Q5 : (putT v13 G k (.int .i64 xk) (.string xn) (.int .i64 xa) (.slice XB nc xcb) (.string xm) (.slice XA na xca)).ownsRow w.heap.size 5 1 (.slice A5 zs.length c5) zs.length (cellsB zs) := bytes_putT HQ5.out HO7.out
              have L9 : Loc (putT v13 G k (.int .i64 xk) (.string xn) (.int .i64 xa) (.slice XB nc xcb) (.string xm) (.slice XA na xca)) w.heap.size #[.int .i64 f, .slice A N cap] 24 := putT_loc HL13.out (by
                have := owns_ne HO7.out HL13.out (by decide)
                intro h
                exact this (by rw [h]; rfl))
              clear y0 y1 y2 y3 y4 y5 f0 f1 f2 f3 f4 f5 x0 x1 x2 x3 x4 x5 e1 l1
              unfold putT at o9 D9 b9 T9 Q5 L9
              generalize ((((((v13.setCell ⟨G, k * 6, none⟩ (.int .i64 xk)).setCell ⟨G, k * 6 + 1, none⟩ (.string xn)).setCell ⟨G, k * 6 + 2, none⟩ (.int .i64 xa)).setCell ⟨G, k * 6 + 3, none⟩ (.slice XB nc xcb)).setCell ⟨G, k * 6 + 4, none⟩ (.string xm)).setCell ⟨G, k * 6 + 5, none⟩ (.slice XA na xca)) = w9 at o9 D9 b9 T9 Q5 L9 ⊢
              have hll2 : (lt.set k X).length = N := by rw [List.length_set]; exact hll
              obtain ⟨ns, n2, hns⟩ : ∃ ns n2, batEncode ⟨f, (lt.set k X).map (·.t)⟩ = (ns, n2) := ⟨_, _, rfl⟩
              have hnl : ns.length ≤ 65536 := by
                have := batEncode_le ⟨f, (lt.set k X).map (·.t)⟩
                rw [hns] at this
                exact this
              have hok9 : ∀ W, Below w9.heap.size w9 W → ∀ y ∈ lt.set k X, y.ok W := fun W b y hy => by
                rcases List.mem_or_eq_of_mem_set hy with h | h
                · exact ((T9 y h).below b).ok
                · rw [h]; exact HXC.out.ok.below (below_then b9 b b9.size)
              have hr9 : ∀ W, Below w9.heap.size w9 W → Row W (some ⟨G, 0, none⟩) (txnsCells (lt.set k X)) := fun W b => by
                have h := (Row.of_owns o9).of_below b (Nat.le_refl _)
                rw [txnsCells_append] at h
                exact h.fore
              have hen : ∀ W, Below w9.heap.size w9 W → Calls Try.prog 15 #[.agg #[.int .i64 f, .slice (some ⟨G, 0, none⟩) N d]] W fun e w' => ∃ A' c', e = .returned (.tuple #[.slice A' ns.length c', .int .i64 n2]) ∧ w'.ownsRow W.heap.size 5 1 (.slice A' ns.length c') ns.length (cellsB ns) ∧ Below W.heap.size W w' := fun W b => by
                have h := bencode_any f (lt.set k X) (some ⟨G, 0, none⟩) d W (hr9 W b) (hok9 W b) HFL.out HNX.out (by omega) HF.out
                rw [hll2, hns] at h
                exact h
              have hok20 := hok9
              have HEN9 := Lib.hid hen
              have e0 := D9.cell 0; have e1 := D9.cell 1; have l0 := L9.cell 0; have l1 := L9.cell 1
              simp at e0 e1 l0 l1
              clear hen
              go_wp2_with fail
              refine (HEN9.out _ (Below.refl _ _)).mono ?_; rintro e u10 ⟨A10, c10, rfl, p10, hb⟩
              have hs4 : ∀ W, Below u10.heap.size u10 W → W.cell? ⟨D, 0, none⟩ = some (.int .i64 f) ∧ W.cell? ⟨D, 1, none⟩ = some (.slice (some ⟨G, 0, none⟩) N d) ∧ W.cell? ⟨w.heap.size, 0, none⟩ = some (.int .i64 f) ∧ W.cell? ⟨w.heap.size, 1, none⟩ = some (.slice A N cap) := fun W b => by
                have hb2 := below_then hb b hb.size
                have hD := D9.below hb2 D9.lt
                have hL := L9.below hb2 L9.lt
                exact ⟨hD.cell 0, hD.cell 1, hL.cell 0, hL.cell 1⟩
              have hsq : ∀ W, Below u10.heap.size u10 W → Calls Try.prog 17 #[.slice A5 zs.length c5, .slice A10 ns.length c10] W fun e w' => e = .returned (.bool (decide (zs = ns))) ∧ Below W.heap.size W w' := fun W b =>
                same_any A5 A10 zs.length ns.length c5 c10 zs ns W (Row.of_owns (owns_mono' (owns_mono' Q5 hb) b)) (Row.of_owns (owns_mono' p10 b)) rfl rfl (by omega) (by omega)
              have hsb : ∀ W, Below u10.heap.size u10 W → Calls Try.prog 20 #[.agg #[.int .i64 f, .slice (some ⟨G, 0, none⟩) N d], .agg #[.int .i64 f, .slice A N cap]] W fun e w' => BSame f f ((lt.set k X).map (·.t)) (l.map (·.t)) e ∧ Below W.heap.size W w' := fun W b => by
                have hb2 := below_then hb b hb.size
                have hb3 := below_then b9 hb2 b9.size
                have h := brefSame_any f f (lt.set k X) l (some ⟨G, 0, none⟩) A d cap W (hr9 W hb2) (HR.out.of_below hb3 (Nat.le_refl _)) (by omega) (by have := HBB.out.1; omega) (hok20 W hb2) (fun y hy => (HCM.out y hy).ok.below hb3) HFL.out HFIT.out
                rw [hll2, ← HN.out] at h
                exact h
              have hcase2 : (n2 != 0) = true ∨ (n2 != 0) = false ∧ (zs = ns ↔ (lt.set k X).map (·.t) = l.map (·.t)) := by
                by_cases h : n2 = 0
                · refine .inr ⟨by simp [h], ?_⟩
                  have h1 := hns
                  rw [h] at h1
                  have hbn2 : (⟨f, (lt.set k X).map (·.t)⟩ : Bat).num := fun t ht => by
                    obtain ⟨y, hy, rfl⟩ := List.mem_map.1 ht
                    rcases List.mem_or_eq_of_mem_set hy with h2 | h2
                    · have h3 : y.t ∈ l.map (·.t) := by rw [← HM.out]; exact List.mem_map_of_mem h2
                      exact HBN.out y.t h3
                    · rw [h2]
                      exact bat_num (f := f) (l := [X]) (fun z hz => by rw [List.mem_singleton] at hz; rw [hz]; exact HXC.out) X.t (by simp)
                  rw [bat_inj HZ.out h1 HBN.out hbn2]
                  simp only [Bat.mk.injEq, true_and]
                  exact eq_comm
                · exact .inl (by simpa using h)
              have HC2 := Lib.hid hcase2
              have HS4 := Lib.hid hs4
              have HSQ := Lib.hid hsq
              have HSB := Lib.hid hsb
              have bz := below_then b9 hb b9.size
              clear e0 e1 l0 l1 hb p10 hs4 hsq hsb hcase2 hok20 hok9 hr9 o9 T9 D9 L9 hns hll2 HO7 HD7 HB7 HT7 HFL HXC HCX HEN9 HQ5 HNX HL13 Q5 HT13 b9
              go_upto_region 23 with (fail)
              rcases HC2.out with hg | ⟨hg, hiff⟩
              · refine wp_region_held_drew (S := fun W => W.cell? ⟨D, 0, none⟩ = some (.int .i64 f) ∧ W.cell? ⟨D, 1, none⟩ = some (.slice (some ⟨G, 0, none⟩) N d) ∧ W.cell? ⟨w.heap.size, 0, none⟩ = some (.int .i64 f) ∧ W.cell? ⟨w.heap.size, 1, none⟩ = some (.slice A N cap)) (by kernel_rfl) (HS4.out _ ((Below.refl u10.heap.size u10).drew)) (fun hH => ?_)
                refine take_at1 0 122 (v := ?_) rfl rfl (by kernel_rfl) (by kernel_rfl) (by kernel_rfl) (fun _ _ _ h => h) (Or.inl ⟨by rfl, ?_⟩) hH ?_
                rotate_left
                · intro W hW
                  obtain ⟨e0, e1, l0, l1⟩ := hW
                  go_simp
                  try with_reducible rfl
                try simp only [Act.put, List.setIfInBounds_toArray, List.set_cons_zero, List.set_cons_succ]
                refine take_at1 1 123 (v := ?_) rfl rfl (by kernel_rfl) (by kernel_rfl) (by kernel_rfl) (fun _ _ _ h => h) (Or.inl ⟨by rfl, ?_⟩) hH ?_
                rotate_left
                · intro W hW
                  obtain ⟨e0, e1, l0, l1⟩ := hW
                  go_simp
                  try with_reducible rfl
                try simp only [Act.put, List.setIfInBounds_toArray, List.set_cons_zero, List.set_cons_succ]
                refine take_at1 2 124 (v := ?_) rfl rfl (by kernel_rfl) (by kernel_rfl) (by kernel_rfl) (fun _ _ _ h => h) (Or.inl ⟨by rfl, ?_⟩) hH ?_
                rotate_left
                · intro W hW
                  obtain ⟨e0, e1, l0, l1⟩ := hW
                  go_simp
                  try with_reducible rfl
                try simp only [Act.put, List.setIfInBounds_toArray, List.set_cons_zero, List.set_cons_succ]
                refine take_at1 3 125 rfl rfl (by kernel_rfl) (by kernel_rfl) (by kernel_rfl) (fun _ _ _ h => h) (Or.inr ⟨by rfl, rfl⟩) hH ?_
                try simp only [Act.put, List.setIfInBounds_toArray, List.set_cons_zero, List.set_cons_succ]
                refine take_at1 4 126 rfl rfl (by kernel_rfl) (by kernel_rfl) (by kernel_rfl) (fun _ _ _ h => h) (Or.inr ⟨by rfl, rfl⟩) hH ?_
                try simp only [Act.put, List.setIfInBounds_toArray, List.set_cons_zero, List.set_cons_succ]
                refine take_at1 5 127 rfl rfl (by kernel_rfl) (by kernel_rfl) (by kernel_rfl) (fun _ _ _ h => h) (Or.inr ⟨by rfl, rfl⟩) hH ?_
                try simp only [Act.put, List.setIfInBounds_toArray, List.set_cons_zero, List.set_cons_succ]
                refine take_at1 6 128 rfl rfl (by kernel_rfl) (by kernel_rfl) (by kernel_rfl) (fun _ _ _ h => h) (Or.inr ⟨by rfl, rfl⟩) hH ?_
                try simp only [Act.put, List.setIfInBounds_toArray, List.set_cons_zero, List.set_cons_succ]
                refine take_at1 7 129 rfl rfl (by kernel_rfl) (by kernel_rfl) (by kernel_rfl) (fun _ _ _ h => h) (Or.inr ⟨by rfl, rfl⟩) hH ?_
                try simp only [Act.put, List.setIfInBounds_toArray, List.set_cons_zero, List.set_cons_succ]
                refine take_at1 8 130 rfl rfl (by kernel_rfl) (by kernel_rfl) (by kernel_rfl) (fun _ _ _ h => h) (Or.inr ⟨by rfl, rfl⟩) hH ?_
                try simp only [Act.put, List.setIfInBounds_toArray, List.set_cons_zero, List.set_cons_succ]
                refine take_at1 9 131 rfl rfl (by kernel_rfl) (by kernel_rfl) (by kernel_rfl) (fun _ _ _ h => h) (Or.inr ⟨by rfl, rfl⟩) hH ?_
                try simp only [Act.put, List.setIfInBounds_toArray, List.set_cons_zero, List.set_cons_succ]
                refine take_at1 10 132 (v := ?_) rfl rfl (by kernel_rfl) (by kernel_rfl) (by kernel_rfl) (fun _ _ _ h => h) (Or.inl ⟨by rfl, ?_⟩) hH ?_
                rotate_left
                · intro W hW
                  obtain ⟨e0, e1, l0, l1⟩ := hW
                  go_simp
                  try with_reducible rfl
                try simp only [Act.put, List.setIfInBounds_toArray, List.set_cons_zero, List.set_cons_succ]
                refine take_at1 11 133 (v := ?_) rfl rfl (by kernel_rfl) (by kernel_rfl) (by kernel_rfl) (fun _ _ _ h => h) (Or.inl ⟨by rfl, ?_⟩) hH ?_
                rotate_left
                · intro W hW
                  obtain ⟨e0, e1, l0, l1⟩ := hW
                  go_simp
                  try with_reducible rfl
                try simp only [Act.put, List.setIfInBounds_toArray, List.set_cons_zero, List.set_cons_succ]
                refine wpAnyH_ready (rs := [12]) (by kernel_rfl) (by simp) ?_
                refine AllReadyH.cons rfl (fun K hK => ?_) AllReadyH.nil
                go_simp
                refine (bknown_any _).mono ?_; rintro e u7 ⟨rfl, hb7⟩
                have z7 := below_then ((Below.refl u10.heap.size u10).drew) hb7 (Nat.le_refl _)
                refine hK.out _ _ (HS4.out _ z7) (fun hH2 => ?_)
                clear hK K
                try simp only [Act.put, List.setIfInBounds_toArray, List.set_cons_zero, List.set_cons_succ]
                refine take_at1 13 135 (v := ?_) rfl rfl (by kernel_rfl) (by kernel_rfl) (by kernel_rfl) (fun _ _ _ h => h) (Or.inl ⟨by rfl, ?_⟩) hH2 ?_
                rotate_left
                · intro W hW
                  obtain ⟨e0, e1, l0, l1⟩ := hW
                  go_simp
                  try with_reducible rfl
                try simp only [Act.put, List.setIfInBounds_toArray, List.set_cons_zero, List.set_cons_succ]
                refine take_at1 14 8 (v := ?_) rfl rfl (by kernel_rfl) (by kernel_rfl) (by kernel_rfl) (fun _ _ _ h => h) (Or.inl ⟨by rfl, ?_⟩) hH2 ?_
                rotate_left
                · intro W hW
                  obtain ⟨e0, e1, l0, l1⟩ := hW
                  go_simp
                  try with_reducible rfl
                try simp only [Act.put, List.setIfInBounds_toArray, List.set_cons_zero, List.set_cons_succ]
                refine wpAnyH_done (by kernel_rfl) ?_ _
                go_wp2
                go_ret
                exact ⟨rfl, below_then bz z7 bz.size⟩
              · obtain ⟨q, hq⟩ : ∃ q, q = decide (zs = ns) := ⟨_, rfl⟩
                have hsq2 : ∀ W, Below u10.heap.size u10 W → Calls Try.prog 17 #[.slice A5 zs.length c5, .slice A10 ns.length c10] W fun e w' => e = .returned (.bool q) ∧ Below W.heap.size W w' := fun W b => by
                  rw [hq]
                  exact HSQ.out W b
                have hsb2 : ∀ W, Below u10.heap.size u10 W → Calls Try.prog 20 #[.agg #[.int .i64 f, .slice (some ⟨G, 0, none⟩) N d], .agg #[.int .i64 f, .slice A N cap]] W fun e w' => e = .returned (.bool q) ∧ Below W.heap.size W w' := fun W b => by
                  refine (HSB.out W b).mono ?_
                  rintro e w' ⟨⟨res, rfl, hres⟩, hb⟩
                  have : res = q := by
                    rw [hq, Bool.eq_iff_iff, hres, decide_eq_true_iff, hiff]
                    simp
                  rw [this]
                  exact ⟨rfl, hb⟩
                have hqq : (q == q) = true := by simp
                have HSQ2 := Lib.hid hsq2
                have HSB2 := Lib.hid hsb2
                clear hsq2 hsb2 hq hiff HSQ HSB HC2
                go_region_held3 (fun W => W.cell? ⟨D, 0, none⟩ = some (.int .i64 f) ∧ W.cell? ⟨D, 1, none⟩ = some (.slice (some ⟨G, 0, none⟩) N d) ∧ W.cell? ⟨w.heap.size, 0, none⟩ = some (.int .i64 f) ∧ W.cell? ⟨w.heap.size, 1, none⟩ = some (.slice A N cap)) ((first | (with_reducible exact HS4.out _ z7) | (with_reducible exact HS4.out _ z6) | (with_reducible exact HS4.out _ z5) | exact HS4.out _ ((Below.refl u10.heap.size u10).drew) | exact HS4.out _ (Below.refl _ _))) ((first | (go_at_call 17; refine (HSQ2.out _ ((Below.refl _ _).drew)).mono ?_; rintro e u5 ⟨rfl, hb⟩; have z5 := below_then ((Below.refl u10.heap.size u10).drew) hb (Nat.le_refl _)) | (go_at_call 20; refine (HSB2.out _ z5).mono ?_; rintro e u6 ⟨rfl, hb6⟩; have z6 := below_then z5 hb6 z5.size) | (go_at_call 14; refine (bknown_any _).mono ?_; rintro e u7 ⟨rfl, hb7⟩; have z7 := below_then z6 hb7 z6.size)))
                go_wp2
                go_ret
                exact ⟨rfl, below_then bz z7 bz.size⟩
      · obtain ⟨hzn, hz2⟩ := batEncode_refused (fun h => hr0 (HRR.out.trans h)) HZ.out
        have hz3 : z2 = r := hz2.trans HRR.out.symm
        subst hz3
        subst hzn
        have hr0' : (z2 != 0) = true := by simpa using hr0
        have hr1 : (z2 == z2) = true := by simp
        clear hz2
        go_wp2_with fail
        refine (bknown_any _).mono ?_; rintro e w6 ⟨rfl, hb⟩
        go_wp2
        go_ret
        exact ⟨rfl, below_then b5 hb b5.size⟩
end Go.Proofs.Ytnmcdifkknphgaa
