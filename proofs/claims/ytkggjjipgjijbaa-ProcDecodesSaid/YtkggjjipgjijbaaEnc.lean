/- Walk of ProcEncodes. -/
import Derived.Test.YtkggjjipgjijbaaChk
import Derived.Test.YtkggjjipgjijbaaRefF
namespace Go.Proofs.Ytkggjjipgjijbaa
open Go.RowKit

theorem procEncode_le (p : Prc) : (procEncode p).1.length ≤ 30000 := by
  unfold procEncode
  split
  · rename_i h
    obtain ⟨hn, ha, hl, hall⟩ := procCheck_zero h
    have h1 := encText_le p.name.data.toList
    have h2 := isName_le hn
    have h3 : p.name.data.toList.length = p.name.size := by simp
    have h4 := encNumber_le p.args
    have h5 := encNumber_le (p.code.length : Int)
    have h6 : (p.code.flatMap insBytes).length ≤ 400 * p.code.length := codeBytes_le (fun x hx => by
      obtain ⟨j, hj, rfl⟩ := List.getElem_of_mem hx
      exact (insCheck_zero (hall j hj)).2.2)
    unfold procBytes
    simp only [List.length_append]
    omega
  · simp

/-- Two rows of the same bytes. -/
theorem same_yes (A B : Option Addr) (ca cb : Nat) (xs : Bs) (w : World) (ha : Row w A (cellsB xs)) (hb : Row w B (cellsB xs)) (hln : xs.length ≤ 140737488355328) :
    Calls Try.prog 17 #[.slice A xs.length ca, .slice B xs.length cb] w fun e w' => e = .returned (.bool true) ∧ Below w.heap.size w w' :=
  (same_any A B xs.length xs.length ca cb xs xs w ha hb rfl rfl hln hln).mono fun _ _ h => ⟨by rw [h.1]; simp, h.2⟩

set_option maxRecDepth 100000 in
set_option maxHeartbeats 4000000 in
theorem encodes_any (p : Prc) (A : Option Addr) (cap : Nat) (x : Ins) (i : Int) (w : World) (hr : Row w A (codeCells p.code)) (hA : A = none → p.code.length = 0) (hln : p.code.length ≤ 9223372036854775807) (hin : p.inR) (hx : x.inR) :
    Calls Try.prog 4 #[.agg (procCells p.name p.args A p.code.length cap), .agg (insCells x), .int .i64 i] w fun e w' => e = .returned (.bool true) ∧ Below w.heap.size w w' := by
  by_cases hbig : 65536 < p.code.length
  · obtain ⟨name, args, l⟩ := p
    simp only at *
    obtain ⟨L, hL⟩ : ∃ L, L = l.length := ⟨_, rfl⟩
    rw [← hL] at hbig ⊢
    have hb' : (65536 : Int) < (L : Int) := by omega
    clear hL hr hA hin hx
    obtain ⟨xo, xa, xb, xc, xn, xv⟩ := x
    unfold procCells insCells
    go_enter Try.func4, Try.ntmps4
    go_wp2
    go_ret
    exact ⟨rfl, ((Below.refl _ _).alloc (Nat.le_refl _) _).alloc (by simp) _⟩
  · have hlen : p.code.length ≤ 65536 := by omega
    obtain ⟨z1, z2, hz⟩ : ∃ z1 z2, procEncode p = (z1, z2) := ⟨_, _, rfl⟩
    have hzl := procEncode_le p
    have htw := fun W (h : Row W A (codeCells p.code)) => twin_any p A cap W h hA hlen
    have hck := fun g c' W (h : Row W (some ⟨g, 0, none⟩) (codeCells p.code)) => pencode_any p (some ⟨g, 0, none⟩) c' W h (by omega) hin
    have hrk := fun W (h : Row W A (codeCells p.code)) => refEncode_any p A cap W h (by omega) hin
    have hst := fun g c' W (h1 : Row W A (codeCells p.code)) (h2 : Row W (some ⟨g, 0, none⟩) (codeCells (p.code ++ marks 9))) (h3 : p.code.length + 9 ≤ c') => stands_any p A cap g c' W h1 h2 h3 hlen
    have hck2 := fun k g c' W (h : Row W (some ⟨g, 0, none⟩) (codeCells (p.code.set k x))) => pencode_any ⟨p.name, p.args, p.code.set k x⟩ (some ⟨g, 0, none⟩) c' W h (by rw [List.length_set]; omega) ⟨hin.1, set_inR hin.2 hx k⟩
    have hrk2 := fun k g c' W (h : Row W (some ⟨g, 0, none⟩) (codeCells (p.code.set k x))) => refEncode_any ⟨p.name, p.args, p.code.set k x⟩ (some ⟨g, 0, none⟩) c' W h (by rw [List.length_set]; omega) ⟨hin.1, set_inR hin.2 hx k⟩
    rw [hz] at hck hrk hzl
    have hz2l := fun k => procEncode_le ⟨p.name, p.args, p.code.set k x⟩
    unfold RE at hrk hrk2
    obtain ⟨name, args, l⟩ := p
    simp only [List.length_set] at *
    obtain ⟨L, hL⟩ : ∃ L, L = l.length := ⟨_, rfl⟩
    rw [← hL] at hbig hlen htw hck hrk hst hck2 hrk2 ⊢
    obtain ⟨xo, xa, xb, xc, xn, xv⟩ := x
    unfold procCells at *
    unfold insCells
    have HL := Lib.hid hL
    have HR := Lib.hid hr
    have HTW := Lib.hid htw
    have HCK := Lib.hid hck
    have HRK := Lib.hid hrk
    have HST := Lib.hid hst
    have HCK2 := Lib.hid hck2
    have HRK2 := Lib.hid hrk2
    have HZ2 := Lib.hid hz2l
    have hb' : ¬ (65536 : Int) < (L : Int) := by omega
    clear hL hr hA hin hx htw hck hrk hst hck2 hrk2 hz2l hz hbig hln
    go_enter Try.func4, Try.ntmps4
    have LP := (Loc.new w #[.string name, .int .i64 args, .slice A L cap] 24).alloc (.cells #[.int .i64 xo, .int .i64 xa, .int .i64 xb, .int .i64 xc, .int .i64 xn, .int .i64 xv.kind, .int .i64 xv.num, .string xv.text] 28)
    have LX := Loc.new (w.alloc (.cells #[.string name, .int .i64 args, .slice A L cap] 24)) #[.int .i64 xo, .int .i64 xa, .int .i64 xb, .int .i64 xc, .int .i64 xn, .int .i64 xv.kind, .int .i64 xv.num, .string xv.text] 28
    have b1 := ((Below.refl w.heap.size w).alloc (Nat.le_refl _) (.cells #[.string name, .int .i64 args, .slice A L cap] 24)).alloc (by simp) (.cells #[.int .i64 xo, .int .i64 xa, .int .i64 xb, .int .i64 xc, .int .i64 xn, .int .i64 xv.kind, .int .i64 xv.num, .string xv.text] 28)
    simp only [World.size_alloc] at LX
    go_wp2_with fail
    refine (HTW.out _ (HR.out.of_below b1 (Nat.le_refl _))).mono ?_; rintro e w1 ⟨g, c', rfl, hown, hb⟩
    obtain ⟨hcap, hgw, _⟩ := owns_cap hown (by omega)
    have LP1 := LP.below hb (by simp only [World.size_alloc]; omega)
    have LX1 := LX.below hb (by simp only [World.size_alloc]; omega)
    have b2 := below_then b1 hb b1.size
    have LT2 := Loc.new w1 #[.string name, .int .i64 args, .slice (some ⟨g, 0, none⟩) L c'] 24
    have LP2 := LP1.alloc (.cells #[.string name, .int .i64 args, .slice (some ⟨g, 0, none⟩) L c'] 24)
    have LX2 := LX1.alloc (.cells #[.string name, .int .i64 args, .slice (some ⟨g, 0, none⟩) L c'] 24)
    have b3 := b2.alloc b2.size (.cells #[.string name, .int .i64 args, .slice (some ⟨g, 0, none⟩) L c'] 24)
    have o3 := owns_mono' hown ((Below.refl w1.heap.size w1).alloc (Nat.le_refl _) (.cells #[.string name, .int .i64 args, .slice (some ⟨g, 0, none⟩) L c'] 24))
    have b1' := b1.size
    clear LP LX LP1 LX1 b1 b2 hown hb
    go_wp2_with fail
    refine (HCK.out g c' _ (Row.of_owns o3).code).mono ?_; rintro e w2 ⟨A2, k2, rfl, ob, hb⟩
    have LT3 := LT2.below hb LT2.lt
    have LP3 := LP2.below hb LP2.lt
    have LX3 := LX2.below hb LX2.lt
    have b4 := below_then b3 hb b3.size
    have o4 := owns_mono' o3 hb
    have p0 := LP3.cell 0; have p1 := LP3.cell 1; have p2 := LP3.cell 2
    simp at p0 p1 p2
    clear LT2 LP2 LX2 b3 o3 hb
    go_wp2_with fail
    refine (HRK.out _ (HR.out.of_below b4 (Nat.le_refl _))).mono ?_; rintro e w3 ⟨A3, k3, rfl, oc, hb⟩
    have ob1 := owns_mono' ob hb
    have LT3' := LT3.below hb LT3.lt
    have LP3' := LP3.below hb LP3.lt
    have LX3' := LX3.below hb LX3.lt
    have b4' := below_then b4 hb b4.size
    have o4' := owns_mono' o4 hb
    clear ob hb LT3 LP3 LX3 b4 o4
    go_wp2_with fail
    refine (same_yes A2 A3 k2 k3 z1 _ (Row.of_owns ob1) (Row.of_owns oc) (by omega)).mono ?_; rintro e w3' ⟨rfl, hb⟩
    have LT4 := LT3'.below hb LT3'.lt
    have LP4 := LP3'.below hb LP3'.lt
    have LX4 := LX3'.below hb LX3'.lt
    have b5 := below_then b4' hb b4'.size
    have o5 := owns_mono' o4' hb
    have p0' := LP4.cell 0; have p1' := LP4.cell 1; have p2' := LP4.cell 2
    have t0' := LT4.cell 0; have t1' := LT4.cell 1; have t2' := LT4.cell 2
    simp at p0' p1' p2' t0' t1' t2'
    clear p0 p1 p2 LT3' LP3' LX3' b4' o4' hb ob1 oc
    go_wp2_with fail
    refine (HST.out g c' _ (HR.out.of_below b5 (Nat.le_refl _)) (Row.of_owns o5) hcap).mono ?_; rintro e w4 ⟨rfl, hb⟩
    have LT5 := LT4.below hb LT4.lt
    have LP5 := LP4.below hb LP4.lt
    have LX5 := LX4.below hb LX4.lt
    have b6 := below_then b5 hb b5.size
    have o6 := owns_mono' o5 hb
    have p2 := LP5.cell 2
    have t0 := LT5.cell 0; have t1 := LT5.cell 1; have t2 := LT5.cell 2
    have x0 := LX5.cell 0; have x1 := LX5.cell 1; have x2 := LX5.cell 2; have x3 := LX5.cell 3; have x4 := LX5.cell 4; have x5 := LX5.cell 5; have x6 := LX5.cell 6; have x7 := LX5.cell 7
    simp at p2 t0 t1 t2 x0 x1 x2 x3 x4 x5 x6 x7
    clear p0' p1' p2' t0' t1' t2' LT4 LP4 LX4 b5 o5 hb
    by_cases hL0 : L = 0
    · subst hL0
      go_wp2_with fail
      refine (known_any _).mono ?_; rintro e w5 ⟨rfl, hb⟩
      go_wp2
      go_ret
      exact ⟨rfl, below_then b6 hb b6.size⟩
    · obtain ⟨k, hk, hcase⟩ := idx_case i L (by omega)
      have hkl : k < l.length := by rw [← HL.out]; exact hk
      have hL0' : ((L : Int) == 0) = false := by simp; omega
      rcases hcase with ⟨h1, h2⟩ | ⟨h1, h2⟩
      all_goals
        have hkI : (k : Int) < (L : Int) := by omega
        have hcl : (codeCells (l ++ marks 9)).length = (L + 9) * 8 := by rw [codeCells_length, List.length_append, marks_length, HL.out]
        have y := fun j (hj : j < 8) => owns_cell o6 (k * 8 + j) (by omega)
        have hv : ∀ j (hj : j < 8), ∃ v, w4.cell? ⟨g, k * 8 + j, none⟩ = some v := fun j hj => by
          rw [(y j hj).1]
          exact ⟨_, List.getElem?_eq_getElem (by omega)⟩
        obtain ⟨v0, y0⟩ := hv 0 (by decide); obtain ⟨v1, y1⟩ := hv 1 (by decide); obtain ⟨v2, y2⟩ := hv 2 (by decide); obtain ⟨v3, y3⟩ := hv 3 (by decide); obtain ⟨v4, y4⟩ := hv 4 (by decide); obtain ⟨v5, y5⟩ := hv 5 (by decide); obtain ⟨v6, y6⟩ := hv 6 (by decide); obtain ⟨v7, y7⟩ := hv 7 (by decide)
        have f0 := (y 0 (by decide)).2; have f1 := (y 1 (by decide)).2; have f2 := (y 2 (by decide)).2; have f3 := (y 3 (by decide)).2; have f4 := (y 4 (by decide)).2; have f5 := (y 5 (by decide)).2; have f6 := (y 6 (by decide)).2; have f7 := (y 7 (by decide)).2
        simp only [Nat.add_zero] at y0 f0
        have hnt : ∀ {b : Nat} {c : Array Value}, Loc w4 b c 24 → b ≠ g := fun hl => by
          have := owns_ne o6 hl (by decide)
          intro h
          exact this (by rw [h]; rfl)
        clear hcl y hv
        go_wp2_with fail
        have o7 := owns_put o6 k (by rw [List.length_append]; omega) ⟨xo, xa, xb, xc, xn, xv⟩
        rw [List.set_append_left _ _ hkl] at o7
        have LT7 := putW_loc (k := k) (x := ⟨xo, xa, xb, xc, xn, xv⟩) LT5 (hnt LT5)
        have b7 := putW_below (k := k) (x := ⟨xo, xa, xb, xc, xn, xv⟩) b6 (Nat.le_trans (by have := b1'; omega) hgw)
        refine (HCK2.out k g c' _ (Row.of_owns o7).code).mono ?_; rintro e w5 ⟨A5, k5, rfl, ob, hb⟩
        have LT8 := LT7.below hb LT7.lt
        have b8 := below_then b7 hb b7.size
        have o8 := owns_mono' o7 hb
        have s0 := LT8.cell 0; have s1 := LT8.cell 1; have s2 := LT8.cell 2
        simp at s0 s1 s2
        clear hb o7 LT7 b7 o6 LT5 LP5 LX5 b6 y0 y1 y2 y3 y4 y5 y6 y7 f0 f1 f2 f3 f4 f5 f6 f7 t0 t1 t2 x0 x1 x2 x3 x4 x5 x6 x7 p2
        go_wp2_with fail
        refine (HRK2.out k g c' _ (Row.of_owns o8).code).mono ?_; rintro e w6 ⟨A6, k6, rfl, oc, hb⟩
        have ob1 := owns_mono' ob hb
        have b8' := below_then b8 hb b8.size
        clear hb o8 LT8 b8 s0 s1 s2
        go_wp2_with fail
        refine (same_yes A5 A6 k5 k6 _ _ (Row.of_owns ob1) (Row.of_owns oc) (by have := HZ2.out k; omega)).mono ?_; rintro e w6' ⟨rfl, hb⟩
        have b9 := below_then b8' hb b8'.size
        clear hb ob1 oc ob
        go_wp2_with fail
        refine (known_any _).mono ?_; rintro e w7 ⟨rfl, hb⟩
        go_wp2
        go_ret
        exact ⟨rfl, below_then b9 hb b9.size⟩
end Go.Proofs.Ytkggjjipgjijbaa
