/- Walk of ProcChecks. -/
import Derived.Test.YtkggjjipgjijbaaLaw5
import Derived.Test.YtkggjjipgjijbaaRef3
namespace Go.Proofs.Ytkggjjipgjijbaa
open Go.RowKit

theorem idx_case (i : Int) (n : Nat) (h : 0 < n) : ∃ k : Nat, k < n ∧ ((0 ≤ i.tmod (n : Int) ∧ i.tmod (n : Int) = (k : Int)) ∨ (i.tmod (n : Int) < 0 ∧ i.tmod (n : Int) + (n : Int) = (k : Int))) := by
  have hlt : (i.tmod (n : Int)).natAbs < n := by
    rw [Int.natAbs_tmod, Int.natAbs_natCast]
    exact Nat.mod_lt _ h
  by_cases h : 0 ≤ i.tmod (n : Int)
  · exact ⟨(i.tmod (n : Int)).toNat, by omega, .inl ⟨h, by omega⟩⟩
  · exact ⟨(i.tmod (n : Int) + n).toNat, by omega, .inr ⟨by omega, by omega⟩⟩

theorem set_inR {l : List Ins} {x : Ins} (h : ∀ y ∈ l, y.inR) (hx : x.inR) (k : Nat) : ∀ y ∈ l.set k x, y.inR := fun y hy => by
  rcases List.mem_or_eq_of_mem_set hy with h1 | h1
  · exact h y h1
  · rw [h1]; exact hx

set_option maxRecDepth 100000 in
set_option maxHeartbeats 4000000 in
theorem checks_any (p : Prc) (A : Option Addr) (cap : Nat) (x : Ins) (i : Int) (w : World) (hr : Row w A (codeCells p.code)) (hA : A = none → p.code.length = 0) (hln : p.code.length ≤ 9223372036854775807) (hin : p.inR) (hx : x.inR) :
    Calls Try.prog 3 #[.agg (procCells p.name p.args A p.code.length cap), .agg (insCells x), .int .i64 i] w fun e w' => e = .returned (.bool true) ∧ Below w.heap.size w w' := by
  by_cases hbig : 65536 < p.code.length
  · obtain ⟨name, args, l⟩ := p
    simp only at *
    obtain ⟨L, hL⟩ : ∃ L, L = l.length := ⟨_, rfl⟩
    rw [← hL] at hbig ⊢
    have hb' : (65536 : Int) < (L : Int) := by omega
    clear hL hr hA hin hx
    obtain ⟨xo, xa, xb, xc, xn, xv⟩ := x
    unfold procCells insCells
    go_enter Try.func3, Try.ntmps3
    go_wp2
    go_ret
    exact ⟨rfl, ((Below.refl _ _).alloc (Nat.le_refl _) _).alloc (by simp) _⟩
  · have hlen : p.code.length ≤ 65536 := by omega
    obtain ⟨z1, z2, hz⟩ : ∃ z1 z2, procCheck p = (z1, z2) := ⟨_, _, rfl⟩
    have htw := fun W (h : Row W A (codeCells p.code)) => twin_any p A cap W h hA hlen
    have hck := fun g c' W (h : Row W (some ⟨g, 0, none⟩) (codeCells p.code)) => pcheck_any p (some ⟨g, 0, none⟩) c' W h (by omega) hin
    have hrk := fun W (h : Row W A (codeCells p.code)) => refCheck_any p A cap W h (by omega)
    have hst := fun g c' W (h1 : Row W A (codeCells p.code)) (h2 : Row W (some ⟨g, 0, none⟩) (codeCells (p.code ++ marks 9))) (h3 : p.code.length + 9 ≤ c') => stands_any p A cap g c' W h1 h2 h3 hlen
    have hck2 := fun k g c' W (h : Row W (some ⟨g, 0, none⟩) (codeCells (p.code.set k x))) => pcheck_any ⟨p.name, p.args, p.code.set k x⟩ (some ⟨g, 0, none⟩) c' W h (by rw [List.length_set]; omega) ⟨hin.1, set_inR hin.2 hx k⟩
    have hrk2 := fun k g c' W (h : Row W (some ⟨g, 0, none⟩) (codeCells (p.code.set k x))) => refCheck_any ⟨p.name, p.args, p.code.set k x⟩ (some ⟨g, 0, none⟩) c' W h (by rw [List.length_set]; omega)
    rw [hz] at hck hrk
    obtain ⟨name, args, l⟩ := p
    simp only [List.length_set] at *
    obtain ⟨L, hL⟩ : ∃ L, L = l.length := ⟨_, rfl⟩
    rw [← hL] at hbig hlen htw hck hrk hst hck2 hrk2 ⊢
    obtain ⟨xo, xa, xb, xc, xn, xv⟩ := x
    unfold procCells at *
    unfold insCells
    have HL := Lib.hid hL
    have HR := Lib.hid hr
    have HTW := Lib.hid htw
    have HCK := Lib.hid hck
    have HRK := Lib.hid hrk
    have HST := Lib.hid hst
    have HCK2 := Lib.hid hck2
    have HRK2 := Lib.hid hrk2
    have hb' : ¬ (65536 : Int) < (L : Int) := by omega
    clear hL hr hA hin hx htw hck hrk hst hck2 hrk2 hz hbig hln
    go_enter Try.func3, Try.ntmps3
    have LP := (Loc.new w #[.string name, .int .i64 args, .slice A L cap] 24).alloc (.cells #[.int .i64 xo, .int .i64 xa, .int .i64 xb, .int .i64 xc, .int .i64 xn, .int .i64 xv.kind, .int .i64 xv.num, .string xv.text] 28)
    have LX := Loc.new (w.alloc (.cells #[.string name, .int .i64 args, .slice A L cap] 24)) #[.int .i64 xo, .int .i64 xa, .int .i64 xb, .int .i64 xc, .int .i64 xn, .int .i64 xv.kind, .int .i64 xv.num, .string xv.text] 28
    have b1 := ((Below.refl w.heap.size w).alloc (Nat.le_refl _) (.cells #[.string name, .int .i64 args, .slice A L cap] 24)).alloc (by simp) (.cells #[.int .i64 xo, .int .i64 xa, .int .i64 xb, .int .i64 xc, .int .i64 xn, .int .i64 xv.kind, .int .i64 xv.num, .string xv.text] 28)
    simp only [World.size_alloc] at LX
    go_wp2_with fail
    refine (HTW.out _ (HR.out.of_below b1 (Nat.le_refl _))).mono ?_; rintro e w1 ⟨g, c', rfl, hown, hb⟩
    obtain ⟨hcap, hgw, _⟩ := owns_cap hown (by omega)
    have LP1 := LP.below hb (by simp only [World.size_alloc]; omega)
    have LX1 := LX.below hb (by simp only [World.size_alloc]; omega)
    have b2 := below_then b1 hb b1.size
    have LT2 := Loc.new w1 #[.string name, .int .i64 args, .slice (some ⟨g, 0, none⟩) L c'] 24
    have LP2 := LP1.alloc (.cells #[.string name, .int .i64 args, .slice (some ⟨g, 0, none⟩) L c'] 24)
    have LX2 := LX1.alloc (.cells #[.string name, .int .i64 args, .slice (some ⟨g, 0, none⟩) L c'] 24)
    have b3 := b2.alloc b2.size (.cells #[.string name, .int .i64 args, .slice (some ⟨g, 0, none⟩) L c'] 24)
    have o3 := owns_mono' hown ((Below.refl w1.heap.size w1).alloc (Nat.le_refl _) (.cells #[.string name, .int .i64 args, .slice (some ⟨g, 0, none⟩) L c'] 24))
    have b1' := b1.size
    clear LP LX LP1 LX1 b1 b2 hown hb
    go_wp2_with fail
    refine (HCK.out g c' _ (Row.of_owns o3).code).mono ?_; rintro e w2 ⟨rfl, hb⟩
    have LT3 := LT2.below hb LT2.lt
    have LP3 := LP2.below hb LP2.lt
    have LX3 := LX2.below hb LX2.lt
    have b4 := below_then b3 hb b3.size
    have o4 := owns_mono' o3 hb
    have p0 := LP3.cell 0; have p1 := LP3.cell 1; have p2 := LP3.cell 2
    simp at p0 p1 p2
    clear LT2 LP2 LX2 b3 o3 hb
    go_wp2_with fail
    refine (HRK.out _ (HR.out.of_below b4 (Nat.le_refl _))).mono ?_; rintro e w3 ⟨rfl, hb⟩
    have LT4 := LT3.below hb LT3.lt
    have LP4 := LP3.below hb LP3.lt
    have LX4 := LX3.below hb LX3.lt
    have b5 := below_then b4 hb b4.size
    have o5 := owns_mono' o4 hb
    have p0' := LP4.cell 0; have p1' := LP4.cell 1; have p2' := LP4.cell 2
    have t0' := LT4.cell 0; have t1' := LT4.cell 1; have t2' := LT4.cell 2
    simp at p0' p1' p2' t0' t1' t2'
    clear p0 p1 p2 LT3 LP3 LX3 b4 o4 hb
    go_wp2_with fail
    refine (HST.out g c' _ (HR.out.of_below b5 (Nat.le_refl _)) (Row.of_owns o5) hcap).mono ?_; rintro e w4 ⟨rfl, hb⟩
    have LT5 := LT4.below hb LT4.lt
    have LP5 := LP4.below hb LP4.lt
    have LX5 := LX4.below hb LX4.lt
    have b6 := below_then b5 hb b5.size
    have o6 := owns_mono' o5 hb
    have p2 := LP5.cell 2
    have t0 := LT5.cell 0; have t1 := LT5.cell 1; have t2 := LT5.cell 2
    have x0 := LX5.cell 0; have x1 := LX5.cell 1; have x2 := LX5.cell 2; have x3 := LX5.cell 3; have x4 := LX5.cell 4; have x5 := LX5.cell 5; have x6 := LX5.cell 6; have x7 := LX5.cell 7
    simp at p2 t0 t1 t2 x0 x1 x2 x3 x4 x5 x6 x7
    clear p0' p1' p2' t0' t1' t2' LT4 LP4 LX4 b5 o5 hb
    by_cases hL0 : L = 0
    · subst hL0
      go_wp2_with fail
      refine (known_any _).mono ?_; rintro e w5 ⟨rfl, hb⟩
      go_wp2
      go_ret
      exact ⟨rfl, below_then b6 hb b6.size⟩
    · obtain ⟨k, hk, hcase⟩ := idx_case i L (by omega)
      have hkl : k < l.length := by rw [← HL.out]; exact hk
      have hL0' : ((L : Int) == 0) = false := by simp; omega
      rcases hcase with ⟨h1, h2⟩ | ⟨h1, h2⟩
      all_goals
        have hkI : (k : Int) < (L : Int) := by omega
        have hcl : (codeCells (l ++ marks 9)).length = (L + 9) * 8 := by rw [codeCells_length, List.length_append, marks_length, HL.out]
        have y := fun j (hj : j < 8) => owns_cell o6 (k * 8 + j) (by omega)
        have hv : ∀ j (hj : j < 8), ∃ v, w4.cell? ⟨g, k * 8 + j, none⟩ = some v := fun j hj => by
          rw [(y j hj).1]
          exact ⟨_, List.getElem?_eq_getElem (by omega)⟩
        obtain ⟨v0, y0⟩ := hv 0 (by decide); obtain ⟨v1, y1⟩ := hv 1 (by decide); obtain ⟨v2, y2⟩ := hv 2 (by decide); obtain ⟨v3, y3⟩ := hv 3 (by decide); obtain ⟨v4, y4⟩ := hv 4 (by decide); obtain ⟨v5, y5⟩ := hv 5 (by decide); obtain ⟨v6, y6⟩ := hv 6 (by decide); obtain ⟨v7, y7⟩ := hv 7 (by decide)
        have f0 := (y 0 (by decide)).2; have f1 := (y 1 (by decide)).2; have f2 := (y 2 (by decide)).2; have f3 := (y 3 (by decide)).2; have f4 := (y 4 (by decide)).2; have f5 := (y 5 (by decide)).2; have f6 := (y 6 (by decide)).2; have f7 := (y 7 (by decide)).2
        simp only [Nat.add_zero] at y0 f0
        have hnt : ∀ {b : Nat} {c : Array Value}, Loc w4 b c 24 → b ≠ g := fun hl => by
          have := owns_ne o6 hl (by decide)
          intro h
          exact this (by rw [h]; rfl)
        clear hcl y hv
        go_wp2_with fail
        have o7 := owns_put o6 k (by rw [List.length_append]; omega) ⟨xo, xa, xb, xc, xn, xv⟩
        rw [List.set_append_left _ _ hkl] at o7
        have LT7 := putW_loc (k := k) (x := ⟨xo, xa, xb, xc, xn, xv⟩) LT5 (hnt LT5)
        have b7 := putW_below (k := k) (x := ⟨xo, xa, xb, xc, xn, xv⟩) b6 (Nat.le_trans (by have := b1'; omega) hgw)
        refine (HCK2.out k g c' _ (Row.of_owns o7).code).mono ?_; rintro e w5 ⟨rfl, hb⟩
        have LT8 := LT7.below hb LT7.lt
        have b8 := below_then b7 hb b7.size
        have o8 := owns_mono' o7 hb
        have s0 := LT8.cell 0; have s1 := LT8.cell 1; have s2 := LT8.cell 2
        simp at s0 s1 s2
        clear hb o7 LT7 b7 o6 LT5 LP5 LX5 b6 y0 y1 y2 y3 y4 y5 y6 y7 f0 f1 f2 f3 f4 f5 f6 f7 t0 t1 t2 x0 x1 x2 x3 x4 x5 x6 x7 p2
        go_wp2_with fail
        refine (HRK2.out k g c' _ (Row.of_owns o8).code).mono ?_; rintro e w6 ⟨rfl, hb⟩
        have b9 := below_then b8 hb b8.size
        clear hb o8 LT8 b8 s0 s1 s2
        go_wp2_with fail
        refine (known_any _).mono ?_; rintro e w7 ⟨rfl, hb⟩
        go_wp2
        go_ret
        exact ⟨rfl, below_then b9 hb b9.size⟩
end Go.Proofs.Ytkggjjipgjijbaa
