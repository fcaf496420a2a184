/- Walk of treadleref5.Decode. -/
import Derived.Test.YtnmcdifkknphgaaRefT
import Derived.Test.YtnmcdifkknphgaaDat2
namespace Go.Proofs.Ytnmcdifkknphgaa
open Go.RowKit

theorem loc_put4o {w : World} {b b' : Nat} {c : Array Value} {t : TypeId} (h : Loc w b' c t) (hne : b' ≠ b) (u0 u1 u2 u3 : Value) : Loc (put4 w b u0 u1 u2 u3) b' c t :=
  (((h.other (a := ⟨b, 0, none⟩) hne _).other (a := ⟨b, 1, none⟩) hne _).other (a := ⟨b, 2, none⟩) hne _).other (a := ⟨b, 3, none⟩) hne _

def put3 (w : World) (b : Nat) (u0 u1 u2 : Value) : World := ((w.setCell ⟨b, 0, none⟩ u0).setCell ⟨b, 1, none⟩ u1).setCell ⟨b, 2, none⟩ u2

theorem loc_put3 {w0 w : World} {b : Nat} {v0 v1 v2 : Value} {t : TypeId} (h : Loc w b #[v0, v1, v2] t) (hb : Below w0.heap.size w0 w) (hw : w0.heap.size ≤ b) (u0 u1 u2 : Value) :
    (put3 w b u0 u1 u2).cell? ⟨b, 0, none⟩ = some u0 ∧ (put3 w b u0 u1 u2).cell? ⟨b, 1, none⟩ = some u1 ∧ (put3 w b u0 u1 u2).cell? ⟨b, 2, none⟩ = some u2 ∧
      Loc (put3 w b u0 u1 u2) b #[u0, u1, u2] t ∧ Below w0.heap.size w0 (put3 w b u0 u1 u2) := by
  have g : Loc (put3 w b u0 u1 u2) b #[u0, u1, u2] t := ((h.set 0 u0).set 1 u1).set 2 u2
  exact ⟨g.cell 0, g.cell 1, g.cell 2, g, ((hb.setCell (p := ⟨b, 0, none⟩) hw _).setCell (p := ⟨b, 1, none⟩) hw _).setCell (p := ⟨b, 2, none⟩) hw _⟩

theorem loc_three {w : World} {b : Nat} {v0 v1 v2 : Value} {t : TypeId} (h : Loc w b #[v0, v1, v2] t) :
    w.cell? ⟨b, 0, none⟩ = some v0 ∧ w.cell? ⟨b, 1, none⟩ = some v1 ∧ w.cell? ⟨b, 2, none⟩ = some v2 ∧
      w.frozen? ⟨b, 0, none⟩ = false ∧ w.frozen? ⟨b, 1, none⟩ = false ∧ w.frozen? ⟨b, 2, none⟩ = false :=
  ⟨h.cell 0, h.cell 1, h.cell 2, h.free 0, h.free 1, h.free 2⟩

theorem byte_xs (r : Rdr) : r.byte.2.xs = r.xs := by
  unfold Rdr.byte
  split
  · rfl
  · split <;> rfl
theorem byte_pos {s : Rdr} (h : s.pos ≤ s.xs.length) : s.byte.2.pos ≤ s.xs.length := by
  unfold Rdr.byte
  split
  · exact h
  · split
    · exact h
    · rename_i b hb
      exact (List.getElem?_eq_some_iff.1 hb).1

theorem text_xs (r : Rdr) (m : Int) : (r.text m).2.xs = r.xs := by
  unfold Rdr.text
  have := number_xs r
  split
  · rfl
  · dsimp only
    split
    · exact this
    · split
      · rfl
      · split
        · rfl
        · exact this
theorem text_pos {s : Rdr} (m : Int) (h : s.pos ≤ s.xs.length) : (s.text m).2.pos ≤ s.xs.length := by
  unfold Rdr.text
  have h1 := number_xs s
  have h2 := number_pos h
  have h3 := number_nonneg s
  split
  · exact h
  · dsimp only
    split
    · exact h2
    · split
      · exact h
      · split
        · exact h
        · show s.number.2.pos + s.number.1.toNat ≤ _
          rw [h1] at *
          omega

set_option maxRecDepth 100000 in
set_option maxHeartbeats 1000000 in
theorem rddec_any (A : Option Addr) (c : Nat) (xs : Bs) (w : World) (hr : Row w A (cellsB xs)) (hl : xs.length ≤ 140737488355328) (hz : A = none → xs.length = 0) (hcap : xs.length ≤ c) :
    Calls Try.prog 76 #[.slice A xs.length c] w fun e w' => e = .returned (.tuple #[.agg (valCells (datumDecode xs).1), .int .i64 (datumDecode xs).2]) ∧ Below w.heap.size w w' := by
  obtain ⟨k, s1, hks⟩ : ∃ k s1, (Rdr.new xs).byte = (k, s1) := ⟨_, _, rfl⟩
  have hlt := rbyte_lt (Rdr.new xs)
  have hx1 := byte_xs (Rdr.new xs)
  have hp1 := byte_pos (s := Rdr.new xs) (Nat.zero_le _)
  have hby := fun W (h : Below w.heap.size w W) => rtbyte_any A c (Rdr.new xs) 0 W (hr.of_below h (Nat.le_refl _)) (Nat.zero_le _) hl
  rw [hks] at hlt hx1 hp1 hby
  simp only at hlt hx1 hp1 hby
  obtain ⟨kI, hkI⟩ : ∃ kI : Int, kI = (k : Int) := ⟨_, rfl⟩
  rw [← hkI] at hby
  obtain ⟨dd, hdd⟩ : ∃ dd, dd = datumDecode xs := ⟨_, rfl⟩
  have hde := fun h => ddec_err (xs := xs) hks h
  have hdk := fun h h2 => ddec_kind (xs := xs) hks h h2
  have hdo := fun h v s2 hv => ddec_ok (xs := xs) hks h v s2 hv
  rw [← hdd] at hde hdk hdo ⊢
  obtain ⟨N, hN⟩ : ∃ N, N = xs.length := ⟨_, rfl⟩
  have e1 : (Rdr.new xs).xs = xs := rfl
  rw [e1] at hby hx1 hp1
  rw [← hN] at hby hl hcap hp1 ⊢
  have HBY := Lib.hid hby
  have HDE := Lib.hid hde
  have HDK := Lib.hid hdk
  have HDO := Lib.hid hdo
  have HROW := Lib.hid hr
  have HN := Lib.hid hN
  have HZ := Lib.hid hz
  have HX1 := Lib.hid hx1
  have HKI := Lib.hid hkI
  have hk256 : 0 ≤ kI ∧ kI < 256 := by omega
  obtain ⟨hkl, hkh⟩ := hk256
  have hrd := fun W => rtread_any A N c W
  have HRD := Lib.hid hrd
  clear hkI hlt hr hz hks hx1 hby hdd hde hdk hdo hN e1 hrd
  unfold rvC at *
  go_enter Try.func76, Try.ntmps76
  have Z1 := Loc.new w #[.int .i64 0, .int .i64 0, .string ⟨#[]⟩] 57
  have b1 := (Below.refl w.heap.size w).alloc (Nat.le_refl _) (.cells #[.int .i64 0, .int .i64 0, .string ⟨#[]⟩] 57)
  go_wp2_with fail
  refine (HRD.out _).mono ?_; rintro e w1 ⟨rfl, hb⟩
  have Z2 := Z1.below hb Z1.lt
  have b2 := below_then b1 hb b1.size
  have Z3 := Z2.alloc (.cells #[.slice A N c, .int .i64 0, .int .i64 0, .int .i64 0] 95)
  have R3 := Loc.new w1 #[.slice A N c, .int .i64 0, .int .i64 0, .int .i64 0] 95
  have b3 := b2.alloc b2.size (.cells #[.slice A N c, .int .i64 0, .int .i64 0, .int .i64 0] 95)
  have hlt1 := Z2.lt
  have hw1 := b2.size
  clear Z1 b1 hb Z2 b2 HRD
  go_wp2_with fail
  refine (HBY.out _ b3).mono ?_; rintro e w2 ⟨st, rfl, hb⟩
  unfold rvC
  obtain ⟨xs1, p1, e1⟩ := s1
  simp only at hp1 ⊢
  have Z4 := Z3.below hb Z3.lt
  have R4 := R3.below hb R3.lt
  have b4 := below_then b3 hb b3.size
  obtain ⟨r0, r1, r2, r3, rf0, rf1, rf2, rf3⟩ := R4.four
  obtain ⟨_, _, _, _, R5, b5⟩ := R4.put4 b4 hw1 (.slice A N c) (.int .i64 p1) (.int .i64 e1) (.int .i64 st)
  have Z5 := loc_put4o Z4 (show w.heap.size ≠ w1.heap.size by omega) (.slice A N c) (.int .i64 p1) (.int .i64 e1) (.int .i64 st)
  clear Z3 R3 b3 hb HBY b4
  by_cases he1 : e1 = 0
  · subst he1
    obtain rfl : xs1 = xs := HX1.out
    have hsz5 : (put4 w2 w1.heap.size (.slice A N c) (.int .i64 p1) (.int .i64 0) (.int .i64 st)).heap.size = w2.heap.size := by simp [put4]
    have V6 := Loc.new (put4 w2 w1.heap.size (.slice A N c) (.int .i64 p1) (.int .i64 0) (.int .i64 st)) #[.int .i64 kI, .int .i64 0, .string ⟨#[]⟩] 57
    rw [hsz5] at V6
    have Z6 := Z5.alloc (.cells #[.int .i64 kI, .int .i64 0, .string ⟨#[]⟩] 57)
    have R6 := R5.alloc (.cells #[.int .i64 kI, .int .i64 0, .string ⟨#[]⟩] 57)
    have b6 := b5.alloc b5.size (.cells #[.int .i64 kI, .int .i64 0, .string ⟨#[]⟩] 57)
    have hk2 : w1.heap.size < w2.heap.size := R4.lt
    clear hsz5 R4 R5
    by_cases hk : k = 0 ∨ k = 1 ∨ k = 2
    · clear Z4 Z5 b5
      rcases hk with rfl | rfl | rfl
      · obtain rfl : kI = 0 := HKI.out
        have hend := fun W => rtend_any A c ⟨xs1, p1, 0⟩ st W (by rw [← HN.out]; exact hp1) (by rw [← HN.out]; exact hl)
        rw [show (⟨xs1, p1, 0⟩ : Rdr).xs.length = N from HN.out.symm] at hend
        unfold rvC at hend
        obtain ⟨E, hE⟩ : ∃ E, E = (⟨xs1, p1, 0⟩ : Rdr).end_ := ⟨_, rfl⟩
        have hdd := HDO.out rfl ⟨0, 0, ⟨#[]⟩⟩ ⟨xs1, p1, 0⟩ (.inl ⟨rfl, rfl, rfl⟩)
        rw [← hE] at hend hdd
        have HEND := Lib.hid hend
        have HDD := Lib.hid hdd
        clear hend hdd hE
        go_wp2_with fail
        refine (HEND.out _).mono ?_; rintro e w9 ⟨rfl, hb⟩
        have Z9 := Z6.below hb Z6.lt
        have V9 := V6.below hb V6.lt
        have b9 := below_then b6 hb b6.size
        have hvz := V6.lt
        obtain ⟨x0, x1, x2, _⟩ := loc_three V9
        obtain ⟨z0, z1, z2, zf0, zf1, zf2⟩ := loc_three Z9
        by_cases hE0 : E = 0
        · subst hE0
          have hd : dd = (⟨0, 0, ⟨#[]⟩⟩, 0) := by rw [HDD.out, if_neg (by simp)]
          have HD := Lib.hid hd
          obtain ⟨y0, y1, y2, _, be⟩ := loc_put3 Z9 b9 (Nat.le_refl _) (.int .i64 0) (.int .i64 0) (.string ⟨#[]⟩)
          have HY := Lib.hid (And.intro y0 (And.intro y1 y2))
          clear y0 y1 y2 Z9 V9 b9 hb hd Z6 V6 b6 HDD
          go_wp2
          obtain ⟨y0, y1, y2⟩ := HY.out
          unfold put3 at y0 y1 y2 be
          refine bodyPost_ret (v := .tuple #[.agg #[.int .i64 0, .int .i64 0, .string ⟨#[]⟩], .int .i64 0]) (by simp [results, Try.results76, go_sem, y0, y1, y2]) rfl ?_
          rw [HD.out]
          exact ⟨rfl, be⟩
        · have hd : dd = (.zero, E) := by rw [HDD.out, if_pos hE0]
          have HD := Lib.hid hd
          have hE' : (E != 0) = true := by simpa using hE0
          obtain ⟨y0, y1, y2, _, be⟩ := loc_put3 Z9 b9 (Nat.le_refl _) (.int .i64 0) (.int .i64 0) (.string ⟨#[]⟩)
          have HY := Lib.hid (And.intro y0 (And.intro y1 y2))
          clear y0 y1 y2 Z9 V9 b9 hb hd Z6 V6 b6 HDD hE0
          go_wp2
          obtain ⟨y0, y1, y2⟩ := HY.out
          unfold put3 at y0 y1 y2 be
          refine bodyPost_ret (v := .tuple #[.agg #[.int .i64 0, .int .i64 0, .string ⟨#[]⟩], .int .i64 E]) (by simp [results, Try.results76, go_sem, y0, y1, y2]) rfl ?_
          rw [HD.out]
          exact ⟨rfl, be⟩
      · obtain rfl : kI = 1 := HKI.out
        have hxs2 := int_xs ⟨xs1, p1, 0⟩
        have hp2 := int_pos (s := ⟨xs1, p1, 0⟩) (by rw [← HN.out]; exact hp1)
        have hmo := fun W (h : Below w.heap.size w W) => rtint_any A c ⟨xs1, p1, 0⟩ st W (HROW.out.of_below h (Nat.le_refl _)) (by rw [← HN.out]; exact hp1) (by rw [← HN.out]; exact hl) HZ.out
        obtain ⟨m, s2, hms⟩ : ∃ m s2, (⟨xs1, p1, 0⟩ : Rdr).int = (m, s2) := ⟨_, _, rfl⟩
        have hspec := HDO.out rfl _ _ (.inr (.inl ⟨rfl, rfl, rfl⟩))
        rw [hms] at hxs2 hp2 hmo hspec
        simp only at hxs2 hp2 hmo hspec
        obtain ⟨xs2, p2, e2⟩ := s2
        simp only at hxs2 hp2 hmo
        subst hxs2
        rw [← HN.out] at hmo hp2
        have HMO := Lib.hid hmo
        have HSPEC := Lib.hid hspec
        clear hms hmo hspec
        unfold rvC at HMO
        go_wp2_with fail
        refine (HMO.out _ b6).mono ?_; rintro e w3 ⟨st2, rfl, hb⟩
        unfold rvC
        have V7 := V6.below hb V6.lt
        have Z7 := Z6.below hb Z6.lt
        have R7 := R6.below hb R6.lt
        have b7 := below_then b6 hb b6.size
        obtain ⟨v0, v1, v2, vf0, vf1, vf2⟩ := loc_three V7
        obtain ⟨q0, q1, q2, q3, qf0, qf1, qf2, qf3⟩ := R7.four
        have V8 := V7.set 1 (.int .i64 m)
        have Z8 := Z7.other (a := ⟨w2.heap.size, 1, none⟩) (show w.heap.size ≠ w2.heap.size by omega) (.int .i64 m)
        have R8 := R7.other (a := ⟨w2.heap.size, 1, none⟩) (show w1.heap.size ≠ w2.heap.size by omega) (.int .i64 m)
        have b8 := b7.setCell (p := ⟨w2.heap.size, 1, none⟩) (show w.heap.size ≤ w2.heap.size by omega) (.int .i64 m)
        obtain ⟨_, _, _, _, R9, c9⟩ := R8.put4 b8 hw1 (.slice A N c) (.int .i64 p2) (.int .i64 e2) (.int .i64 st2)
        have Y9 := loc_put4o Z8 (show w.heap.size ≠ w1.heap.size by omega) (.slice A N c) (.int .i64 p2) (.int .i64 e2) (.int .i64 st2)
        have X9 := loc_put4o V8 (show w2.heap.size ≠ w1.heap.size by omega) (.slice A N c) (.int .i64 p2) (.int .i64 e2) (.int .i64 st2)
        simp only [List.setIfInBounds_toArray, List.set_cons_succ, List.set_cons_zero] at X9
        have hn1 : ¬ w2.heap.size = w1.heap.size := by omega
        have hn2 : ¬ w1.heap.size = w2.heap.size := by omega
        clear V6 Z6 R6 b6 hb V7 Z7 R7 b7 V8 Z8 R8 b8 HMO
        have hend := fun W => rtend_any A c ⟨xs2, p2, e2⟩ st2 W (by rw [← HN.out]; exact hp2) (by rw [← HN.out]; exact hl)
        rw [show (⟨xs2, p2, e2⟩ : Rdr).xs.length = N from HN.out.symm] at hend
        unfold rvC at hend
        obtain ⟨E, hE⟩ : ∃ E, E = (⟨xs2, p2, e2⟩ : Rdr).end_ := ⟨_, rfl⟩
        have hdd := HSPEC.out
        rw [← hE] at hend hdd
        have HEND := Lib.hid hend
        have HDD := Lib.hid hdd
        clear hend hdd hE
        go_wp2_with fail
        refine (HEND.out _).mono ?_; rintro e w9 ⟨rfl, hb⟩
        have Z9 := Y9.below hb Y9.lt
        have V9 := X9.below hb X9.lt
        have b9 := below_then c9 hb c9.size
        have hvz := X9.lt
        obtain ⟨x0, x1, x2, _⟩ := loc_three V9
        obtain ⟨z0, z1, z2, zf0, zf1, zf2⟩ := loc_three Z9
        by_cases hE0 : E = 0
        · subst hE0
          have hd : dd = (⟨1, m, ⟨#[]⟩⟩, 0) := by rw [HDD.out, if_neg (by simp)]
          have HD := Lib.hid hd
          obtain ⟨y0, y1, y2, _, be⟩ := loc_put3 Z9 b9 (Nat.le_refl _) (.int .i64 1) (.int .i64 m) (.string ⟨#[]⟩)
          have HY := Lib.hid (And.intro y0 (And.intro y1 y2))
          clear y0 y1 y2 Z9 V9 b9 hb hd Y9 X9 c9 HDD
          go_wp2
          obtain ⟨y0, y1, y2⟩ := HY.out
          unfold put3 at y0 y1 y2 be
          refine bodyPost_ret (v := .tuple #[.agg #[.int .i64 1, .int .i64 m, .string ⟨#[]⟩], .int .i64 0]) (by simp [results, Try.results76, go_sem, y0, y1, y2]) rfl ?_
          rw [HD.out]
          exact ⟨rfl, be⟩
        · have hd : dd = (.zero, E) := by rw [HDD.out, if_pos hE0]
          have HD := Lib.hid hd
          have hE' : (E != 0) = true := by simpa using hE0
          obtain ⟨y0, y1, y2, _, be⟩ := loc_put3 Z9 b9 (Nat.le_refl _) (.int .i64 0) (.int .i64 0) (.string ⟨#[]⟩)
          have HY := Lib.hid (And.intro y0 (And.intro y1 y2))
          clear y0 y1 y2 Z9 V9 b9 hb hd Y9 X9 c9 HDD hE0
          go_wp2
          obtain ⟨y0, y1, y2⟩ := HY.out
          unfold put3 at y0 y1 y2 be
          refine bodyPost_ret (v := .tuple #[.agg #[.int .i64 0, .int .i64 0, .string ⟨#[]⟩], .int .i64 E]) (by simp [results, Try.results76, go_sem, y0, y1, y2]) rfl ?_
          rw [HD.out]
          exact ⟨rfl, be⟩
      · obtain rfl : kI = 2 := HKI.out
        have hxs2 := text_xs ⟨xs1, p1, 0⟩ 256
        have hp2 := text_pos (s := ⟨xs1, p1, 0⟩) 256 (by rw [← HN.out]; exact hp1)
        have hmo := fun W (h : Below w.heap.size w W) => rttext_any A c ⟨xs1, p1, 0⟩ st 256 (by decide) (by decide) W (HROW.out.of_below h (Nat.le_refl _)) (by rw [← HN.out]; exact hp1) (by rw [← HN.out]; exact hl) HZ.out (by rw [← HN.out]; exact hcap)
        obtain ⟨m, s2, hms⟩ : ∃ m s2, (⟨xs1, p1, 0⟩ : Rdr).text 256 = (m, s2) := ⟨_, _, rfl⟩
        have hspec := HDO.out rfl _ _ (.inr (.inr ⟨rfl, rfl, rfl⟩))
        rw [hms] at hxs2 hp2 hmo hspec
        simp only at hxs2 hp2 hmo hspec
        obtain ⟨xs2, p2, e2⟩ := s2
        simp only at hxs2 hp2 hmo
        subst hxs2
        rw [← HN.out] at hmo hp2
        have HMO := Lib.hid hmo
        have HSPEC := Lib.hid hspec
        clear hms hmo hspec
        unfold rvC at HMO
        go_wp2_with fail
        refine (HMO.out _ b6).mono ?_; rintro e w3 ⟨st2, rfl, hb⟩
        unfold rvC
        have V7 := V6.below hb V6.lt
        have Z7 := Z6.below hb Z6.lt
        have R7 := R6.below hb R6.lt
        have b7 := below_then b6 hb b6.size
        obtain ⟨v0, v1, v2, vf0, vf1, vf2⟩ := loc_three V7
        obtain ⟨q0, q1, q2, q3, qf0, qf1, qf2, qf3⟩ := R7.four
        have V8 := V7.set 2 (.string (ofBs m))
        have Z8 := Z7.other (a := ⟨w2.heap.size, 2, none⟩) (show w.heap.size ≠ w2.heap.size by omega) (.string (ofBs m))
        have R8 := R7.other (a := ⟨w2.heap.size, 2, none⟩) (show w1.heap.size ≠ w2.heap.size by omega) (.string (ofBs m))
        have b8 := b7.setCell (p := ⟨w2.heap.size, 2, none⟩) (show w.heap.size ≤ w2.heap.size by omega) (.string (ofBs m))
        obtain ⟨_, _, _, _, R9, c9⟩ := R8.put4 b8 hw1 (.slice A N c) (.int .i64 p2) (.int .i64 e2) (.int .i64 st2)
        have Y9 := loc_put4o Z8 (show w.heap.size ≠ w1.heap.size by omega) (.slice A N c) (.int .i64 p2) (.int .i64 e2) (.int .i64 st2)
        have X9 := loc_put4o V8 (show w2.heap.size ≠ w1.heap.size by omega) (.slice A N c) (.int .i64 p2) (.int .i64 e2) (.int .i64 st2)
        simp only [List.setIfInBounds_toArray, List.set_cons_succ, List.set_cons_zero] at X9
        have hn1 : ¬ w2.heap.size = w1.heap.size := by omega
        have hn2 : ¬ w1.heap.size = w2.heap.size := by omega
        clear V6 Z6 R6 b6 hb V7 Z7 R7 b7 V8 Z8 R8 b8 HMO
        have hend := fun W => rtend_any A c ⟨xs2, p2, e2⟩ st2 W (by rw [← HN.out]; exact hp2) (by rw [← HN.out]; exact hl)
        rw [show (⟨xs2, p2, e2⟩ : Rdr).xs.length = N from HN.out.symm] at hend
        unfold rvC at hend
        obtain ⟨E, hE⟩ : ∃ E, E = (⟨xs2, p2, e2⟩ : Rdr).end_ := ⟨_, rfl⟩
        have hdd := HSPEC.out
        rw [← hE] at hend hdd
        have HEND := Lib.hid hend
        have HDD := Lib.hid hdd
        clear hend hdd hE
        go_wp2_with fail
        refine (HEND.out _).mono ?_; rintro e w9 ⟨rfl, hb⟩
        have Z9 := Y9.below hb Y9.lt
        have V9 := X9.below hb X9.lt
        have b9 := below_then c9 hb c9.size
        have hvz := X9.lt
        obtain ⟨x0, x1, x2, _⟩ := loc_three V9
        obtain ⟨z0, z1, z2, zf0, zf1, zf2⟩ := loc_three Z9
        by_cases hE0 : E = 0
        · subst hE0
          have hd : dd = (⟨2, 0, ofBs m⟩, 0) := by rw [HDD.out, if_neg (by simp)]
          have HD := Lib.hid hd
          obtain ⟨y0, y1, y2, _, be⟩ := loc_put3 Z9 b9 (Nat.le_refl _) (.int .i64 2) (.int .i64 0) (.string (ofBs m))
          have HY := Lib.hid (And.intro y0 (And.intro y1 y2))
          clear y0 y1 y2 Z9 V9 b9 hb hd Y9 X9 c9 HDD
          go_wp2
          obtain ⟨y0, y1, y2⟩ := HY.out
          unfold put3 at y0 y1 y2 be
          refine bodyPost_ret (v := .tuple #[.agg #[.int .i64 2, .int .i64 0, .string (ofBs m)], .int .i64 0]) (by simp [results, Try.results76, go_sem, y0, y1, y2]) rfl ?_
          rw [HD.out]
          exact ⟨rfl, be⟩
        · have hd : dd = (.zero, E) := by rw [HDD.out, if_pos hE0]
          have HD := Lib.hid hd
          have hE' : (E != 0) = true := by simpa using hE0
          obtain ⟨y0, y1, y2, _, be⟩ := loc_put3 Z9 b9 (Nat.le_refl _) (.int .i64 0) (.int .i64 0) (.string ⟨#[]⟩)
          have HY := Lib.hid (And.intro y0 (And.intro y1 y2))
          clear y0 y1 y2 Z9 V9 b9 hb hd Y9 X9 c9 HDD hE0
          go_wp2
          obtain ⟨y0, y1, y2⟩ := HY.out
          unfold put3 at y0 y1 y2 be
          refine bodyPost_ret (v := .tuple #[.agg #[.int .i64 0, .int .i64 0, .string ⟨#[]⟩], .int .i64 E]) (by simp [results, Try.results76, go_sem, y0, y1, y2]) rfl ?_
          rw [HD.out]
          exact ⟨rfl, be⟩
    · have hd : dd = (.zero, 3) := HDK.out rfl hk
      have HD := Lib.hid hd
      have hk0 : (kI == 0) = false := by have := HKI.out; simp; omega
      have hk1 : (kI == 1) = false := by have := HKI.out; simp; omega
      have hk2' : (kI == 2) = false := by have := HKI.out; simp; omega
      obtain ⟨z0, z1, z2, zf0, zf1, zf2⟩ := loc_three Z4
      obtain ⟨_, _, _, Zp, be⟩ := loc_put3 Z5 b5 (Nat.le_refl _) (.int .i64 0) (.int .i64 0) (.string ⟨#[]⟩)
      obtain ⟨y0, y1, y2, _⟩ := loc_three (Zp.alloc (.cells #[.int .i64 kI, .int .i64 0, .string ⟨#[]⟩] 57))
      have be := be.alloc be.size (.cells #[.int .i64 kI, .int .i64 0, .string ⟨#[]⟩] 57)
      have HY := Lib.hid (And.intro y0 (And.intro y1 y2))
      have hn1 : ¬ w.heap.size = w1.heap.size := by omega
      have hn2 : w.heap.size < w2.heap.size := by omega
      clear y0 y1 y2 V6 R6 Z6 b6 hd hk Z4 Z5 b5 Zp
      go_wp2
      obtain ⟨y0, y1, y2⟩ := HY.out
      unfold put3 put4 at y0 y1 y2 be
      refine bodyPost_ret (v := .tuple #[.agg #[.int .i64 0, .int .i64 0, .string ⟨#[]⟩], .int .i64 3]) (by simp [results, Try.results76, go_sem, y0, y1, y2]) rfl ?_
      rw [HD.out]
      exact ⟨rfl, be⟩
  · have he : dd = (.zero, e1) := HDE.out he1
    have HE := Lib.hid he
    have he' : (e1 != 0) = true := by simpa using he1
    clear he he1 HDK HDO
    obtain ⟨z0, z1, z2, zf0, zf1, zf2⟩ := loc_three Z4
    obtain ⟨y0, y1, y2, _, be⟩ := loc_put3 Z5 b5 (Nat.le_refl _) (.int .i64 0) (.int .i64 0) (.string ⟨#[]⟩)
    have HY := Lib.hid (And.intro y0 (And.intro y1 y2))
    have hne : ¬ w.heap.size = w1.heap.size := by omega
    clear y0 y1 y2 Z4 Z5 R4 R5
    go_wp2
    go_region
    all_goals
      go_wp2
      obtain ⟨y0, y1, y2⟩ := HY.out
      unfold put3 put4 at y0 y1 y2
      unfold put3 put4 at be
      refine bodyPost_ret (v := .tuple #[.agg #[.int .i64 0, .int .i64 0, .string ⟨#[]⟩], .int .i64 e1]) (by simp [results, Try.results76, go_sem, y0, y1, y2]) rfl ?_
      rw [HE.out]
      exact ⟨rfl, be.drew⟩
end Go.Proofs.Ytnmcdifkknphgaa
