/- Walk of datum.Decode. -/
import Derived.Test.YtnieminnnkbneaaGreatDat
namespace Go.Proofs.YtnieminnnkbneaaGreat
open Go.RowKit

theorem rbyte_lt (s : Rdr) : s.byte.1 < 256 := by
  unfold Rdr.byte
  split
  · simp
  · split
    · simp
    · rename_i b _; exact b.toNat_lt

theorem Rd.alloc {w : World} {r : Nat} {s : Rdr} (h : Rd w r s) (o : Obj) : Rd (w.alloc o) r s := h.below ((Below.refl _ _).alloc (Nat.le_refl _) o)

/-- A store into a block that is neither a reader nor bytes. -/
theorem Rd.other {w : World} {r : Nat} {s : Rdr} (h : Rd w r s) {b : Nat} {c : Array Value} {t : TypeId} (hl : Loc w b c t) (h1 : t ≠ 118) (h2 : t ≠ 5) (o : Nat) (v : Value) : Rd (w.setCell ⟨b, o, none⟩ v) r s :=
  h.keep (B := w.heap.size) (G := (· = b)) ((Keep.refl _ (· = b) w).setCell (.inr rfl) v) (Nat.le_refl _) (fun k hk => by subst hk; exact ⟨c, t, _, hl, h1, h2⟩)

theorem below_rd {B : Nat} {a w w' : World} {r : Nat} {s : Rdr} (h : Below B a w) (hS : RdStep w w' r s) (hB : B ≤ w.heap.size) (hr : B ≤ r) : Below B a w' :=
  below_keep h hS.2 hB (fun k hk => by rw [hk]; exact hr)

theorem Loc.rd {w w' : World} {b : Nat} {c : Array Value} {t : TypeId} {r : Nat} {s : Rdr} (h : Loc w b c t) (hS : RdStep w w' r s) (hne : b ≠ r) : Loc w' b c t := h.keep hS.2 h.lt hne

theorem ddec_ok {xs : Bs} {k : Nat} {s1 : Rdr} (hks : (Rdr.new xs).byte = (k, s1)) (he : s1.err = 0) (v : Val) (s2 : Rdr)
    (hv : (k = 0 ∧ v = ⟨0, 0, ⟨#[]⟩⟩ ∧ s2 = s1) ∨ (k = 1 ∧ v = ⟨1, s1.int.1, ⟨#[]⟩⟩ ∧ s2 = s1.int.2) ∨ (k = 2 ∧ v = ⟨2, 0, ofBs (s1.text 256).1⟩ ∧ s2 = (s1.text 256).2)) :
    datumDecode xs = if s2.end_ ≠ 0 then (.zero, s2.end_) else (v, 0) := by
  unfold datumDecode
  rw [hks]
  rcases hv with ⟨rfl, rfl, rfl⟩ | ⟨rfl, rfl, rfl⟩ | ⟨rfl, rfl, rfl⟩ <;> simp [he, emptyB]
theorem ddec_kind {xs : Bs} {k : Nat} {s1 : Rdr} (hks : (Rdr.new xs).byte = (k, s1)) (he : s1.err = 0) (hk : ¬ (k = 0 ∨ k = 1 ∨ k = 2)) : datumDecode xs = (.zero, 3) := by
  unfold datumDecode
  rw [hks]
  simp only [he]
  rw [if_neg (by simp), if_pos hk]
theorem ddec_err {xs : Bs} {k : Nat} {s1 : Rdr} (hks : (Rdr.new xs).byte = (k, s1)) (he : s1.err ≠ 0) : datumDecode xs = (.zero, s1.err) := by
  unfold datumDecode
  rw [hks]
  simp only
  rw [if_pos he]

set_option maxHeartbeats 4000000 in
theorem ddecode_any (A : Option Addr) (n c : Nat) (xs : Bs) (w : World) (hr : Row w A (cellsB xs)) (hn : n = xs.length) (hA : A = none → n = 0) (hlen : n ≤ 140737488355328) :
    Calls Tryz.prog 100 #[.slice A n c] w fun e w' => e = .returned (.tuple #[.agg (valCells (datumDecode xs).1), .int .i64 (datumDecode xs).2]) ∧ Below w.heap.size w w' := by
  have hb1 := rbyte_lt (Rdr.new xs)
  obtain ⟨k, s1, hks⟩ : ∃ k s1, (Rdr.new xs).byte = (k, s1) := ⟨_, _, rfl⟩
  rw [hks] at hb1
  simp only at hb1
  obtain ⟨V, E, hVE⟩ : ∃ V E, datumDecode xs = (V, E) := ⟨_, _, rfl⟩
  rw [hVE]
  have HVE := Lib.hid hVE
  have HKS := Lib.hid hks
  have Hn := Lib.hid hn
  clear hVE hks hn
  go_enter Tryz.func100, Tryz.ntmps100
  go_wp2_with fail
  refine (read_any A n c xs _ (hr.alloc _) Hn.out hA hlen).mono ?_; rintro e w1 ⟨r, rfl, hrge, hR1, hb⟩
  simp at hrge
  have L1 : Loc w1 w.heap.size _ _ := (Loc.new w _ _).below hb (by simp)
  have b1 := below_then ((Below.refl w.heap.size w).alloc (Nat.le_refl _) _) hb (by simp)
  go_wp2_with fail
  refine (rbyte_any r _ _ hR1).mono ?_; rw [HKS.out]; rintro e w2 ⟨rfl, hS2⟩
  have L2 := L1.rd hS2 (by omega)
  have b2 := below_rd b1 hS2 b1.size (by omega)
  have hlt2 := L2.lt
  go_wp2_with fail
  refine (rerr_any r _ _ (hS2.1.alloc _)).mono ?_; rintro e w3 ⟨rfl, hS3⟩
  have L3 := (L2.alloc _).rd hS3 (by omega)
  have hrl := hS2.1.lt
  have M3 := (Loc.new w2 _ _).rd hS3 (by omega)
  have b3 := below_rd (b2.alloc b2.size _) hS3 (by simp; omega) (by omega)
  have k0 := L3.cell 0; have k1 := L3.cell 1; have k2 := L3.cell 2
  have f0 := L3.free 0; have f1 := L3.free 1; have f2 := L3.free 2
  have m0 := M3.cell 0; have m1 := M3.cell 1; have m2 := M3.cell 2
  have g1 := M3.free 1; have g2 := M3.free 2
  simp at k0 k1 k2 m0 m1 m2
  by_cases he : s1.err = 0
  · have ht : (s1.err != 0) = false := by simp [he]
    have hkc : (k = 0 ∨ k = 1 ∨ k = 2) ∨ ¬ (k = 0 ∨ k = 1 ∨ k = 2) := by omega
    rcases hkc with hkc | hkc
    · rcases hkc with rfl | rfl | rfl
      · have HD := Lib.hid (HVE.out.symm.trans (ddec_ok HKS.out he ⟨0, 0, ⟨#[]⟩⟩ s1 (.inl ⟨rfl, rfl, rfl⟩)))
        clear k0 k1 k2 f0 f1 f2 m1 m2 g1 g2 he HVE
        go_wp2_with fail
        refine (rend_any r _ _ hS3.1).mono ?_; rintro e w9 ⟨rfl, hS9⟩
        have L9 := L3.rd hS9 (by omega)
        have M9 := M3.rd hS9 (by omega)
        have b9 := below_rd b3 hS9 b3.size (by omega)
        have p0 := L9.cell 0; have p1 := L9.cell 1; have p2 := L9.cell 2
        have q0 := L9.free 0; have q1 := L9.free 1; have q2 := L9.free 2
        have o0 := M9.cell 0; have o1 := M9.cell 1; have o2 := M9.cell 2
        simp at p0 p1 p2 o0 o1 o2
        by_cases hE : s1.end_ = 0
        · have ht9 : (s1.end_ != 0) = false := by simp [hE]
          have hres := HD.out
          rw [if_neg (by simp [hE])] at hres
          obtain ⟨rfl, rfl⟩ := Prod.mk.inj hres
          clear hE hres
          go_wp2
          have L10 := ((L9.set 0 (.int .i64 0)).set 1 (.int .i64 0)).set 2 (.string ⟨#[]⟩)
          simp at L10
          have c0 := L10.cell 0; have c1 := L10.cell 1; have c2 := L10.cell 2
          simp at c0 c1 c2
          have b10 := ((b9.setCell (p := ⟨w.heap.size, 0, none⟩) (Nat.le_refl _) (.int .i64 0)).setCell (p := ⟨w.heap.size, 1, none⟩) (Nat.le_refl _) (.int .i64 0)).setCell (p := ⟨w.heap.size, 2, none⟩) (Nat.le_refl _) (.string ⟨#[]⟩)
          exact bodyPost_ret (v := .tuple #[.agg (valCells ⟨0, 0, ⟨#[]⟩⟩), .int .i64 0]) (by simp [results, Tryz.results100, go_sem, c0, c1, c2, valCells]) rfl ⟨rfl, b10⟩
        · have hres := HD.out
          rw [if_pos hE] at hres
          obtain ⟨rfl, hE9⟩ := Prod.mk.inj hres
          have ht9 : (s1.end_ != 0) = true := by simp [hE]
          rw [← hE9] at ht9
          have HE9 := Lib.hid hE9
          have hEE : s1.end_ = E := hE9.symm
          clear hE hres hE9
          go_wp2
          have L10 := ((L9.set 0 (.int .i64 0)).set 1 (.int .i64 0)).set 2 (.string ⟨#[]⟩)
          simp at L10
          have c0 := L10.cell 0; have c1 := L10.cell 1; have c2 := L10.cell 2
          simp at c0 c1 c2
          have b10 := ((b9.setCell (p := ⟨w.heap.size, 0, none⟩) (Nat.le_refl _) (.int .i64 0)).setCell (p := ⟨w.heap.size, 1, none⟩) (Nat.le_refl _) (.int .i64 0)).setCell (p := ⟨w.heap.size, 2, none⟩) (Nat.le_refl _) (.string ⟨#[]⟩)
          exact bodyPost_ret (v := .tuple #[.agg (valCells .zero), .int .i64 E]) (by simp [results, Tryz.results100, go_sem, c0, c1, c2, valCells, Val.zero, emptyB]) rfl ⟨rfl, b10⟩
      · obtain ⟨vn, s2, hv⟩ : ∃ vn s2, s1.int = (vn, s2) := ⟨_, _, rfl⟩
        have HD := Lib.hid (HVE.out.symm.trans (ddec_ok HKS.out he ⟨1, vn, ⟨#[]⟩⟩ s2 (.inr (.inl ⟨rfl, by rw [hv], by rw [hv]⟩))))
        have HV := Lib.hid hv
        clear k0 k1 k2 f0 f1 f2 m2 g2 he HVE hv
        go_wp2_with fail
        refine (rint_any r _ _ hS3.1).mono ?_; rw [HV.out]; rintro e w4 ⟨rfl, hS4⟩
        have L4 := L3.rd hS4 (by omega)
        have M4 := M3.rd hS4 (by omega)
        have b4 := below_rd b3 hS4 b3.size (by omega)
        have m1 := M4.cell 1; have g1 := M4.free 1
        simp at m1
        have L5 := L4.other (a := ⟨w2.heap.size, 1, none⟩) (by show w.heap.size ≠ w2.heap.size; omega) (.int .i64 vn)
        have M5 := M4.set 1 (.int .i64 vn)
        simp at M5
        have R5 := hS4.1.other M4 (by decide) (by decide) 1 (.int .i64 vn)
        have b5 := b4.setCell (p := ⟨w2.heap.size, 1, none⟩) (by show w.heap.size ≤ w2.heap.size; omega) (.int .i64 vn)
        go_wp2_with fail
        refine (rend_any r _ _ R5).mono ?_; rintro e w9 ⟨rfl, hS9⟩
        have L9 := L5.rd hS9 (by omega)
        have M9 := M5.rd hS9 (by omega)
        have b9 := below_rd b5 hS9 b5.size (by omega)
        have p0 := L9.cell 0; have p1 := L9.cell 1; have p2 := L9.cell 2
        have q0 := L9.free 0; have q1 := L9.free 1; have q2 := L9.free 2
        have o0 := M9.cell 0; have o1 := M9.cell 1; have o2 := M9.cell 2
        simp at p0 p1 p2 o0 o1 o2
        by_cases hE : s2.end_ = 0
        · have ht9 : (s2.end_ != 0) = false := by simp [hE]
          have hres := HD.out
          rw [if_neg (by simp [hE])] at hres
          obtain ⟨rfl, rfl⟩ := Prod.mk.inj hres
          clear hE hres
          go_wp2
          have L10 := ((L9.set 0 (.int .i64 1)).set 1 (.int .i64 vn)).set 2 (.string ⟨#[]⟩)
          simp at L10
          have c0 := L10.cell 0; have c1 := L10.cell 1; have c2 := L10.cell 2
          simp at c0 c1 c2
          have b10 := ((b9.setCell (p := ⟨w.heap.size, 0, none⟩) (Nat.le_refl _) (.int .i64 1)).setCell (p := ⟨w.heap.size, 1, none⟩) (Nat.le_refl _) (.int .i64 vn)).setCell (p := ⟨w.heap.size, 2, none⟩) (Nat.le_refl _) (.string ⟨#[]⟩)
          exact bodyPost_ret (v := .tuple #[.agg (valCells ⟨1, vn, ⟨#[]⟩⟩), .int .i64 0]) (by simp [results, Tryz.results100, go_sem, c0, c1, c2, valCells]) rfl ⟨rfl, b10⟩
        · have hres := HD.out
          rw [if_pos hE] at hres
          obtain ⟨rfl, hE9⟩ := Prod.mk.inj hres
          have ht9 : (s2.end_ != 0) = true := by simp [hE]
          rw [← hE9] at ht9
          have HE9 := Lib.hid hE9
          have hEE : s2.end_ = E := hE9.symm
          clear hE hres hE9
          go_wp2
          have L10 := ((L9.set 0 (.int .i64 0)).set 1 (.int .i64 0)).set 2 (.string ⟨#[]⟩)
          simp at L10
          have c0 := L10.cell 0; have c1 := L10.cell 1; have c2 := L10.cell 2
          simp at c0 c1 c2
          have b10 := ((b9.setCell (p := ⟨w.heap.size, 0, none⟩) (Nat.le_refl _) (.int .i64 0)).setCell (p := ⟨w.heap.size, 1, none⟩) (Nat.le_refl _) (.int .i64 0)).setCell (p := ⟨w.heap.size, 2, none⟩) (Nat.le_refl _) (.string ⟨#[]⟩)
          exact bodyPost_ret (v := .tuple #[.agg (valCells .zero), .int .i64 E]) (by simp [results, Tryz.results100, go_sem, c0, c1, c2, valCells, Val.zero, emptyB]) rfl ⟨rfl, b10⟩
      · obtain ⟨bs, s2, hv⟩ : ∃ bs s2, s1.text 256 = (bs, s2) := ⟨_, _, rfl⟩
        obtain ⟨vt, hvt⟩ : ∃ vt, vt = ofBs bs := ⟨_, rfl⟩
        have HD := Lib.hid (HVE.out.symm.trans (ddec_ok HKS.out he ⟨2, 0, vt⟩ s2 (.inr (.inr ⟨rfl, by rw [hv, hvt], by rw [hv]⟩))))
        have HV := Lib.hid hv
        have HVT := Lib.hid hvt
        clear k0 k1 k2 f0 f1 f2 m1 g1 he HVE hv hvt
        go_wp2_with fail
        refine (rtext_any r _ 256 (by decide) (by decide) _ hS3.1).mono ?_; rw [HV.out]; rw [← HVT.out]; rintro e w4 ⟨rfl, hS4⟩
        have L4 := L3.rd hS4 (by omega)
        have M4 := M3.rd hS4 (by omega)
        have b4 := below_rd b3 hS4 b3.size (by omega)
        have m1 := M4.cell 2; have g1 := M4.free 2
        simp at m1
        have L5 := L4.other (a := ⟨w2.heap.size, 2, none⟩) (by show w.heap.size ≠ w2.heap.size; omega) (.string vt)
        have M5 := M4.set 2 (.string vt)
        simp at M5
        have R5 := hS4.1.other M4 (by decide) (by decide) 2 (.string vt)
        have b5 := b4.setCell (p := ⟨w2.heap.size, 2, none⟩) (by show w.heap.size ≤ w2.heap.size; omega) (.string vt)
        go_wp2_with fail
        refine (rend_any r _ _ R5).mono ?_; rintro e w9 ⟨rfl, hS9⟩
        have L9 := L5.rd hS9 (by omega)
        have M9 := M5.rd hS9 (by omega)
        have b9 := below_rd b5 hS9 b5.size (by omega)
        have p0 := L9.cell 0; have p1 := L9.cell 1; have p2 := L9.cell 2
        have q0 := L9.free 0; have q1 := L9.free 1; have q2 := L9.free 2
        have o0 := M9.cell 0; have o1 := M9.cell 1; have o2 := M9.cell 2
        simp at p0 p1 p2 o0 o1 o2
        by_cases hE : s2.end_ = 0
        · have ht9 : (s2.end_ != 0) = false := by simp [hE]
          have hres := HD.out
          rw [if_neg (by simp [hE])] at hres
          obtain ⟨rfl, rfl⟩ := Prod.mk.inj hres
          clear hE hres
          go_wp2
          have L10 := ((L9.set 0 (.int .i64 2)).set 1 (.int .i64 0)).set 2 (.string vt)
          simp at L10
          have c0 := L10.cell 0; have c1 := L10.cell 1; have c2 := L10.cell 2
          simp at c0 c1 c2
          have b10 := ((b9.setCell (p := ⟨w.heap.size, 0, none⟩) (Nat.le_refl _) (.int .i64 2)).setCell (p := ⟨w.heap.size, 1, none⟩) (Nat.le_refl _) (.int .i64 0)).setCell (p := ⟨w.heap.size, 2, none⟩) (Nat.le_refl _) (.string vt)
          exact bodyPost_ret (v := .tuple #[.agg (valCells ⟨2, 0, vt⟩), .int .i64 0]) (by simp [results, Tryz.results100, go_sem, c0, c1, c2, valCells]) rfl ⟨rfl, b10⟩
        · have hres := HD.out
          rw [if_pos hE] at hres
          obtain ⟨rfl, hE9⟩ := Prod.mk.inj hres
          have ht9 : (s2.end_ != 0) = true := by simp [hE]
          rw [← hE9] at ht9
          have HE9 := Lib.hid hE9
          have hEE : s2.end_ = E := hE9.symm
          clear hE hres hE9
          go_wp2
          have L10 := ((L9.set 0 (.int .i64 0)).set 1 (.int .i64 0)).set 2 (.string ⟨#[]⟩)
          simp at L10
          have c0 := L10.cell 0; have c1 := L10.cell 1; have c2 := L10.cell 2
          simp at c0 c1 c2
          have b10 := ((b9.setCell (p := ⟨w.heap.size, 0, none⟩) (Nat.le_refl _) (.int .i64 0)).setCell (p := ⟨w.heap.size, 1, none⟩) (Nat.le_refl _) (.int .i64 0)).setCell (p := ⟨w.heap.size, 2, none⟩) (Nat.le_refl _) (.string ⟨#[]⟩)
          exact bodyPost_ret (v := .tuple #[.agg (valCells .zero), .int .i64 E]) (by simp [results, Tryz.results100, go_sem, c0, c1, c2, valCells, Val.zero, emptyB]) rfl ⟨rfl, b10⟩
    · have hres := HVE.out.symm.trans (ddec_kind HKS.out he hkc)
      obtain ⟨rfl, rfl⟩ := Prod.mk.inj hres
      have hk1 : ((k : Int) == 0) = false := by simp; omega
      have hk2 : ((k : Int) == 1) = false := by simp; omega
      have hk3 : ((k : Int) == 2) = false := by simp; omega
      clear he hkc hres
      go_wp2
      have L4 := ((L3.set 0 (.int .i64 0)).set 1 (.int .i64 0)).set 2 (.string ⟨#[]⟩)
      simp at L4
      have c0 := L4.cell 0; have c1 := L4.cell 1; have c2 := L4.cell 2
      simp at c0 c1 c2
      have b4 := ((b3.setCell (p := ⟨w.heap.size, 0, none⟩) (Nat.le_refl _) (.int .i64 0)).setCell (p := ⟨w.heap.size, 1, none⟩) (Nat.le_refl _) (.int .i64 0)).setCell (p := ⟨w.heap.size, 2, none⟩) (Nat.le_refl _) (.string ⟨#[]⟩)
      exact bodyPost_ret (v := .tuple #[.agg (valCells .zero), .int .i64 3]) (by simp [results, Tryz.results100, go_sem, c0, c1, c2, valCells, Val.zero, emptyB]) rfl ⟨rfl, b4⟩
  · have ht : (s1.err != 0) = true := by simp [he]
    have hres := HVE.out.symm.trans (ddec_err HKS.out he)
    obtain ⟨rfl, rfl⟩ := Prod.mk.inj hres
    clear he hres
    go_wp2
    have L4 := ((L3.set 0 (.int .i64 0)).set 1 (.int .i64 0)).set 2 (.string ⟨#[]⟩)
    simp at L4
    have c0 := L4.cell 0; have c1 := L4.cell 1; have c2 := L4.cell 2
    simp at c0 c1 c2
    have b4 := ((b3.setCell (p := ⟨w.heap.size, 0, none⟩) (Nat.le_refl _) (.int .i64 0)).setCell (p := ⟨w.heap.size, 1, none⟩) (Nat.le_refl _) (.int .i64 0)).setCell (p := ⟨w.heap.size, 2, none⟩) (Nat.le_refl _) (.string ⟨#[]⟩)
    exact bodyPost_ret (v := .tuple #[.agg (valCells .zero), .int .i64 s1.err]) (by simp [results, Tryz.results100, go_sem, c0, c1, c2, valCells, Val.zero, emptyB]) rfl ⟨rfl, b4⟩

end Go.Proofs.YtnieminnnkbneaaGreat
