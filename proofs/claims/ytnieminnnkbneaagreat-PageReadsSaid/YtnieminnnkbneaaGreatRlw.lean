/- Walk of treadlelaw14.PageReads. Printed by wip/gen_rlw.py. -/
import Derived.Test.YtnieminnnkbneaaGreatMf
import Derived.Test.YtnieminnnkbneaaGreatLkn
import Derived.Laws.CopyOwn
namespace Go.Proofs.YtnieminnnkbneaaGreat
open Go.RowKit
set_option linter.unusedVariables false

theorem cellsB_set (xs : Bs) (k : Nat) (v : UInt8) : (cellsB xs).toArray.setIfInBounds k (.int .u8 v.toNat) = (cellsB (xs.set k v)).toArray := by
  simp [cellsB, List.map_set]

theorem marks_step (N k : Nat) (h : k < N) : (List.replicate k (171 : UInt8) ++ List.replicate (N - k) 0).set k 171 = List.replicate (k + 1) 171 ++ List.replicate (N - (k + 1)) 0 := by
  obtain ⟨m, hm⟩ : ∃ m, N - k = m + 1 := ⟨N - k - 1, by omega⟩
  rw [hm, show N - (k + 1) = m by omega, List.set_append_right _ _ (by simp), List.length_replicate, Nat.sub_self, List.replicate_succ, List.set_cons_zero, List.replicate_succ']
  simp

theorem made_marks (N : Nat) : madeCells #[.int .u8 0] N = (cellsB (List.replicate N (0 : UInt8))).toArray := by
  unfold madeCells cellsB
  apply Array.ext
  · simp
  · intro j h1 h2
    simp [Nat.mod_one]

theorem run_upto {P : Program} (t e : TypeId) (size : Nat) (hu : P.underlying t = some (.slice e)) (hs : (P.info? e).map (·.size) = some size) (g len cap hi : Nat) (h2 : hi ≤ cap) (h3 : 0 < cap) (W : World) :
    (Instr.slice t (.slice (some ⟨g, 0, none⟩) len cap) none (some (.int .i64 (hi : Int))) none).run P W = .ok (.slice (some ⟨g, 0, none⟩) hi cap) W := by
  obtain ⟨i, hi', hsz⟩ : ∃ i, P.info? e = some i ∧ i.size = size := by
    cases h : P.info? e with
    | none => simp [h] at hs
    | some i => exact ⟨i, rfl, by simpa [h] using hs⟩
  have eh : (hi : Int).toNat = hi := rfl
  have ha : (⟨g, 0, none⟩ : Addr).add 0 = ⟨g, 0, none⟩ := rfl
  have hne : ¬ cap = 0 := by omega
  simp [Instr.slice, run_underlying hu, Instr.sliceBounds, run_sliceBound, sizeOf, typeInfo, hi', h2, ha, hne]

theorem byte_wf {n : Int} (h : (Lit.int .u8 n).wf = true) : ∃ v : UInt8, n = (v.toNat : Int) := by
  have h' : 0 ≤ n ∧ n < 256 := by
    simp [Lit.wf, IntKind.min, IntKind.max, IntKind.bits, IntKind.signed] at h
    omega
  exact ⟨UInt8.ofNat n.toNat, by rw [UInt8.toNat_ofNat']; omega⟩

theorem idx_case (i : Int) (n : Nat) (h : 0 < n) : ∃ k : Nat, k < n ∧ ((0 ≤ i.tmod (n : Int) ∧ i.tmod (n : Int) = (k : Int)) ∨ (i.tmod (n : Int) < 0 ∧ i.tmod (n : Int) + (n : Int) = (k : Int))) := by
  have hlt : (i.tmod (n : Int)).natAbs < n := by
    rw [Int.natAbs_tmod, Int.natAbs_natCast]
    exact Nat.mod_lt _ h
  by_cases h : 0 ≤ i.tmod (n : Int)
  · exact ⟨(i.tmod (n : Int)).toNat, by omega, .inl ⟨h, by omega⟩⟩
  · exact ⟨(i.tmod (n : Int) + n).toNat, by omega, .inr ⟨by omega, by omega⟩⟩

set_option maxRecDepth 100000 in
set_option maxHeartbeats 8000000 in
theorem preads_in (A : Option Addr) (c : Nat) (xs : Bs) (i : Int) (v : UInt8) (w : World) (hr : Row w A (cellsB xs)) (hb0 : ¬ 400000 < xs.length) (hcap : xs.length ≤ c) :
    Calls Tryz.prog 5 #[.slice A xs.length c, .int .i64 i, .int .u8 v.toNat] w fun e w' => e = .returned (.bool true) ∧ Below w.heap.size w w' := by
  obtain ⟨N, hN⟩ : ∃ N, N = xs.length := ⟨_, rfl⟩
  rw [← hN] at hb0 hcap ⊢
  have hb' : ¬ (400000 : Int) < (N : Int) := by omega
  have hN9 : N ≤ 400000 := by omega
  have HROW := Lib.hid hr
  have HN := Lib.hid hN
  have BW := Lib.hid (Below.refl w.heap.size w)
  clear hr hN hb0
  obtain ⟨i0, hi, hz0, hz1, hz2⟩ := info_parts infoU8
  have Hz2 := Lib.hid hz2
  have HDEC : Hid (∀ B d W' (ys : Bs), ys.length = N → Row W' B (cellsB ys) → N ≤ d → Calls Tryz.prog 11 #[.slice B N d] W' (RdPost ys W')) := Lib.hid (fun B d W' ys hy h hd => pread_any B N d ys W' h hy.symm hd (by omega))
  have HREF : Hid (∀ B d W' (ys : Bs), ys.length = N → Row W' B (cellsB ys) → N ≤ d → Calls Tryz.prog 12 #[.slice B N d] W' (RrPost ys W')) := Lib.hid (fun B d W' ys hy h hd => r14read_any B N d ys W' h hy.symm hd (by omega))
  have HSAME : Hid (∀ B d W' (_ : Row W' B (cellsB xs)) (_ : Row W' A (cellsB xs)), Calls Tryz.prog 14 #[.slice B N d, .slice A N c] W' fun e w' => e = .returned (.bool true) ∧ Below W'.heap.size W' w') :=
    Lib.hid (fun B d W' h h2 => (same_any B A N N d c xs xs W' h h2 HN.out HN.out (by omega) (by omega)).mono fun _ _ h => ⟨by rw [h.1]; simp, h.2⟩)
  have hwm : IntKind.i64.wrap ((N : Int) + 4) = ((N + 4 : Nat) : Int) := by simp [IntKind.bits, IntKind.wrap, IntKind.signed]; omega
  clear hz2
  go_enter Tryz.func5, Tryz.ntmps5
  go_wp2_with (at_make; refine wpList_make_row _ rfl _ _ 33 rfl 5 i0 (.int .u8 0) Tryz.underlying33 hi hz0 hz1 rfl .i64 .i64 (N + 4) rfl rfl (by rw [Hz2.out]; omega) (by omega) ?_)
  have L0 := Loc.new w (madeCells #[.int .u8 0] (N + 4)) 5
  have b0 := (Below.refl w.heap.size w).alloc (Nat.le_refl _) (.cells (madeCells #[.int .u8 0] (N + 4)) 5)
  go_loopw [8] (fun i wr => ∃ k : Nat, k ≤ N + 4 ∧ i = .int .i64 k ∧ Loc wr w.heap.size (cellsB (List.replicate k (171 : UInt8) ++ List.replicate (N + 4 - k) 0)).toArray 5 ∧ Below w.heap.size w wr) (fun i _ => N + 4 - (intOf i).toNat)
  case atStart =>
    refine ⟨0, Nat.zero_le _, rfl, ?_, b0⟩
    rw [List.replicate_zero, List.nil_append, Nat.sub_zero, ← made_marks]
    exact L0
  case round =>
    obtain ⟨wi, rfl⟩ : ∃ wi, wi = wr := ⟨_, rfl⟩
    obtain ⟨k, hk, rfl, Li, bi⟩ := hrel
    clear L0 b0
    by_cases hkN : k < N + 4
    · have c0 := Li.cell k
      have f0 := Li.free k
      obtain ⟨u, hu⟩ : ∃ u, (cellsB (List.replicate k (171 : UInt8) ++ List.replicate (N + 4 - k) 0)).toArray[k]? = some u := ⟨_, Array.getElem?_eq_getElem (by simp [cellsB]; omega)⟩
      rw [hu] at c0
      have L1 := Li.set k (.int .u8 (171 : UInt8).toNat)
      rw [cellsB_set, marks_step _ _ hkN] at L1
      have b1 := bi.setCell (p := ⟨w.heap.size, k, none⟩) (Nat.le_refl _) (.int .u8 (171 : UInt8).toNat)
      have hkI : (k : Int) < (N : Int) + 4 := by omega
      have h171 : (((171 : UInt8).toNat : Nat) : Int) = 171 := rfl
      rw [h171] at L1 b1
      clear Li bi hu h171
      go_wp2
      go_roundw
      case rel => exact ⟨k + 1, by omega, by go_num, L1, b1⟩
      case measure => simp [intOf]; omega
    · obtain rfl : k = N + 4 := by omega
      rw [Nat.sub_self, List.replicate_zero, List.append_nil] at Li
      have hsp : splice (cellsB (List.replicate (N + 4) (171 : UInt8))) 0 (cellsB xs) = cellsB (xs ++ List.replicate 4 171) := by
        unfold splice
        rw [List.take_zero, List.nil_append, Nat.zero_add, cellsB_length, cellsB_append]
        congr 1
        simp [cellsB, ← HN.out]
      have HSP := Lib.hid hsp
      have hpos : 0 < (cellsB xs).length → (some (⟨w.heap.size, 0, none⟩ : Addr)) = some ⟨w.heap.size, 0, none⟩ ∧ ∃ ad, A = some ad ∧ ∀ j v, (cellsB xs)[j]? = some v → wi.cell? (ad.add j) = some v := by
        intro hp
        obtain ⟨b, off, hAb, hbl, hc⟩ := (HROW.out.of_below bi (Nat.le_refl _)).at hp
        refine ⟨rfl, _, hAb, fun j v hj => ?_⟩
        have hadd : (⟨b, off, none⟩ : Addr).add j = ⟨b, off + j, none⟩ := by unfold Addr.add; split <;> simp_all
        rw [hadd, hc j (by rcases Nat.lt_or_ge j (cellsB xs).length with h | h; exact h; rw [List.getElem?_eq_none h] at hj; cases hj)]
        exact hj
      have HPOS := Lib.hid hpos
      clear hsp hpos
      go_wp2_with (refine wpList_copy_splice rfl _ _ 33 33 rfl 5 Tryz.underlying33 (by rw [hi]; exact congrArg some hz1) (some ⟨w.heap.size, 0, none⟩) A (N + 4) (N + 4) N c rfl rfl w.heap.size 0 (cellsB (List.replicate (N + 4) (171 : UInt8))) 5 Li (cellsB xs) (by rw [cellsB_length, ← HN.out]; simp) HPOS.out (by rw [cellsB_length, cellsB_length, ← HN.out]; simp) (cellsB_one xs) w.heap.size w bi (Nat.le_refl _) ?_; intro w2 HL2 b2)
      have hL2 := HL2.out
      rw [HSP.out] at hL2
      have L2 : Loc w2 w.heap.size (cellsB (xs ++ List.replicate 4 171)).toArray 5 := hL2
      have hup := run_upto (P := Tryz.prog) 33 5 1 Tryz.underlying33 (by rw [hi]; exact congrArg some hz1) w.heap.size (N + 4) (N + 4) N (by omega) (by omega)
      have hrow : ∀ {V : World} {ys : Bs}, Loc V w.heap.size (cellsB (ys ++ List.replicate 4 171)).toArray 5 → Row V (some ⟨w.heap.size, 0, none⟩) (cellsB ys) := fun h => by
        have h' := Row.of_loc h
        rw [cellsB_append] at h'
        exact h'.fore
      have HR2 : Hid (∀ {V : World} {ys : Bs}, Loc V w.heap.size (cellsB (ys ++ List.replicate 4 171)).toArray 5 → Row V (some ⟨w.heap.size, 0, none⟩) (cellsB ys)) := Lib.hid hrow
      clear hL2 HL2 HPOS hrow Li bi
      obtain ⟨pe, hpe⟩ : ∃ pe, pe = (pageRead xs).2 := ⟨_, rfl⟩
      have HPE := Lib.hid hpe
      clear hpe
      go_wp2_with fail
      refine (HDEC.out (some ⟨w.heap.size, 0, none⟩) (N + 4) w2 xs HN.out.symm (HR2.out L2) (by omega)).mono ?_; rintro e w3 ⟨m, hm, rfl, I1, hb⟩
      rw [← HPE.out]
      unfold RM.img
      have HM := Lib.hid hm
      have LP1 := Loc.new w3 m.img 41
      have d3 := (Below.refl w3.heap.size w3).alloc (Nat.le_refl _) (.cells m.img 41)
      have L3 := (L2.below hb L2.lt).below d3 (L2.below hb L2.lt).lt
      have b3 := below_then (below_then b2 hb b2.size) d3 (below_then b2 hb b2.size).size
      have hw3 := (below_then b2 hb b2.size).size
      have o3 := (I1.under d3).from b2.size
      clear I1 hb d3 L2 b2 hm
      obtain ⟨w4, hw4⟩ : ∃ w4, w4 = w3.alloc (.cells m.img 41) := ⟨_, rfl⟩
      obtain ⟨pb, hpb⟩ : ∃ pb, pb = w3.heap.size := ⟨_, rfl⟩
      have hw4' := hw4
      unfold RM.img at hw4'
      have HW4 := Lib.hid hw4'.symm
      have HPB := Lib.hid hpb
      rw [← hw4, ← hpb] at LP1
      rw [← hw4] at L3 b3 o3
      rw [← hpb] at hw3
      clear hw4 hw4' hpb
      go_upto_region 10 with (fail)
      rw [HW4.out, ← HPB.out]
      clear HW4 HPB
      go_wp2_with fail
      refine (HREF.out A c _ xs HN.out.symm (HROW.out.of_below b3 (Nat.le_refl _)) hcap).mono ?_; rintro e w5 ⟨s, g, hs, rfl, I2, hb⟩
      rw [← HPE.out]
      unfold imV
      have HS := Lib.hid hs
      have LQ1 := Loc.new w5 (imV s g) 41
      have d5 := (Below.refl w5.heap.size w5).alloc (Nat.le_refl _) (.cells (imV s g) 41)
      have hb5 := hb
      have LP4 := (LP1.below hb LP1.lt).below d5 (LP1.below hb LP1.lt).lt
      have L4 := (L3.below hb L3.lt).below d5 (L3.below hb L3.lt).lt
      have o4 := (o3.under hb).under d5
      have b4 := below_then (below_then b3 hb b3.size) d5 (below_then b3 hb b3.size).size
      have q4 := (I2.below d5).from b3.size
      have V : VSp w _ (cellsB (xs ++ List.replicate 4 171)).toArray pb w5.heap.size m s g := ⟨L4, LP4, LQ1, o4, q4, b4⟩
      clear L4 LP4 LQ1 o4 q4 b4 I2 hb hb5 d5 LP1 L3 b3 o3 hs
      obtain ⟨w6, hw6⟩ : ∃ w6, w6 = w5.alloc (.cells (imV s g) 41) := ⟨_, rfl⟩
      obtain ⟨qb, hqb⟩ : ∃ qb, qb = w5.heap.size := ⟨_, rfl⟩
      have hw6' := hw6
      unfold imV at hw6'
      have HW6 := Lib.hid hw6'.symm
      have HQB := Lib.hid hqb
      rw [← hw6, ← hqb] at V
      clear hw6 hw6' hqb
      go_upto_region 11 with (fail)
      rw [HW6.out, ← HQB.out]
      clear HW6 HQB
      have HIM : Hid (∀ V', VSp w V' (cellsB (xs ++ List.replicate 4 171)).toArray pb qb m s g → Calls Tryz.prog 13 #[.agg #[.int .i64 m.s.number, .int .i64 m.s.mark, .slice m.P m.pl.length m.cp, .slice m.E m.s.entries.length m.ce], .agg #[.int .i64 s.number, .int .i64 s.mark, .slice g.P g.pl.length g.cp, .slice g.E s.entries.length g.ce]] V' fun e w' => e = .returned (.bool true) ∧ Below V'.heap.size V' w') := Lib.hid (fun V' h => rimages_any xs (by rw [← HN.out]; omega) m s g _ _ V' HM.out HS.out h.o h.q)
      have p0 : w6.cell? ⟨pb, 0, none⟩ = some (.int .i64 m.s.number) := V.lp.cell 0
      have p1 : w6.cell? ⟨pb, 1, none⟩ = some (.int .i64 m.s.mark) := V.lp.cell 1
      have p2 : w6.cell? ⟨pb, 2, none⟩ = some (.slice m.P m.pl.length m.cp) := V.lp.cell 2
      have p3 : w6.cell? ⟨pb, 3, none⟩ = some (.slice m.E m.s.entries.length m.ce) := V.lp.cell 3
      have q0 : w6.cell? ⟨qb, 0, none⟩ = some (.int .i64 s.number) := V.lq.cell 0
      have q1 : w6.cell? ⟨qb, 1, none⟩ = some (.int .i64 s.mark) := V.lq.cell 1
      have q2 : w6.cell? ⟨qb, 2, none⟩ = some (.slice g.P g.pl.length g.cp) := V.lq.cell 2
      have q3 : w6.cell? ⟨qb, 3, none⟩ = some (.slice g.E s.entries.length g.ce) := V.lq.cell 3
      go_wp2_with fail
      refine (HIM.out _ V).mono ?_; rintro e w7 ⟨rfl, hb⟩
      have V5 := V.below hb
      clear V hb p0 p1 p2 p3 q0 q1 q2 q3
      go_wp2_with fail
      refine (HSAME.out _ _ _ (HR2.out V5.l) (HROW.out.of_below V5.b (Nat.le_refl _))).mono ?_; rintro e w8 ⟨rfl, hb⟩
      have V6 := V5.below hb
      clear V5 hb
      go_wp2
      go_loop [13] (fun i => ∃ k : Nat, N ≤ k ∧ k ≤ N + 4 ∧ i = .int .i64 k) (fun i => N + 4 - (intOf i).toNat)
      case atStart => exact ⟨N, Nat.le_refl _, by omega, rfl⟩
      case round =>
        obtain ⟨k, hk1, hk2, rfl⟩ := hrel
        by_cases hk9 : k < N + 4
        · have c0 := V6.l.cell k
          have hx : (cellsB (xs ++ List.replicate 4 171)).toArray[k]? = some (.int .u8 171) := by
            have h1 : (xs ++ List.replicate 4 (171 : UInt8))[k]? = some 171 := by
              rw [List.getElem?_append_right (by rw [← HN.out]; exact hk1), List.getElem?_replicate, if_pos (by rw [← HN.out]; omega)]
            simp only [cellsB, List.getElem?_toArray, List.getElem?_map, h1]
            rfl
          rw [hx] at c0
          have hkI : (k : Int) < (N : Int) + 4 := by omega
          clear hx
          go_wp2
          go_round
          case rel => exact ⟨k + 1, by omega, by omega, by go_num⟩
          case measure => simp [intOf]; omega
        · obtain rfl : k = N + 4 := by omega
          by_cases hN0 : N = 0
          · have hN0' : ((N : Int) == 0) = true := by simp; omega
            go_wp2_with fail
            refine (known_any _).mono ?_; rintro e w7 ⟨rfl, hb⟩
            go_wp2
            go_ret
            exact ⟨rfl, below_then BW.out (below_then V6.b hb V6.b.size) BW.out.size⟩
          · obtain ⟨k, hk, hcase⟩ := idx_case i N (by omega)
            have hN0' : ((N : Int) == 0) = false := by simp; omega
            obtain ⟨ys, hys⟩ : ∃ ys, ys = (xs).set k v := ⟨_, rfl⟩
            have hyl : ys.length = N := by rw [hys, List.length_set, ← HN.out]
            have V7 := V6.set k (.int .u8 v.toNat)
            rw [cellsB_set, List.set_append_left _ _ (by rw [← HN.out]; exact hk), ← hys] at V7
            have c0 := V6.l.cell k
            have f0 := V6.l.free k
            obtain ⟨u, hu⟩ : ∃ u, (cellsB (xs ++ List.replicate 4 171)).toArray[k]? = some u := ⟨_, Array.getElem?_eq_getElem (by simp [cellsB, ← HN.out]; omega)⟩
            rw [hu] at c0
            obtain ⟨re, hre⟩ : ∃ re, re = (pageRead ys).2 := ⟨_, rfl⟩
            have HRE := Lib.hid hre
            have HYL := Lib.hid hyl
            clear hys hyl hu hre V6
            have HIM2 : Hid (∀ V', VSp w V' (cellsB (ys ++ List.replicate 4 171)).toArray pb qb m s g → Calls Tryz.prog 13 #[.agg #[.int .i64 m.s.number, .int .i64 m.s.mark, .slice m.P m.pl.length m.cp, .slice m.E m.s.entries.length m.ce], .agg #[.int .i64 s.number, .int .i64 s.mark, .slice g.P g.pl.length g.cp, .slice g.E s.entries.length g.ce]] V' fun e w' => e = .returned (.bool true) ∧ Below V'.heap.size V' w') := Lib.hid (fun V' h => rimages_any xs (by rw [← HN.out]; omega) m s g _ _ V' HM.out HS.out h.o h.q)
            rcases hcase with ⟨h1, h2⟩ | ⟨h1, h2⟩
            all_goals
              have hkI : (k : Int) < (N : Int) + 4 := by omega
              go_wp2_with fail
              refine (HDEC.out (some ⟨w.heap.size, 0, none⟩) (N + 4) _ ys HYL.out (HR2.out V7.l) (by omega)).mono ?_; rintro e w7 ⟨m2, hm2, rfl, I3, hb⟩
              rw [← HRE.out]
              unfold RM.img
              have HM2 := Lib.hid hm2
              have V8 := V7.below hb
              have LP3 := Loc.new w7 m2.img 41
              have d7 := (Below.refl w7.heap.size w7).alloc (Nat.le_refl _) (.cells m2.img 41)
              have o3 := I3.under d7
              have V9 := V8.below d7
              clear I3 hb d7 V7 V8 c0 f0 hm2
              unfold RM.img at LP3 o3 V9
              go_wp2_with fail
              refine (HREF.out (some ⟨w.heap.size, 0, none⟩) (N + 4) _ ys HYL.out (HR2.out V9.l) (by omega)).mono ?_; rintro e w8 ⟨s2, g2, hs2, rfl, I4, hb⟩
              rw [← HRE.out]
              unfold imV
              have HS2 := Lib.hid hs2
              have LQ3 := Loc.new w8 (imV s2 g2) 41
              have d8 := (Below.refl w8.heap.size w8).alloc (Nat.le_refl _) (.cells (imV s2 g2) 41)
              have o5 := (o3.under hb).under d8
              have o6 := I4.below d8
              have LP4 := (LP3.below hb LP3.lt).below d8 (LP3.below hb LP3.lt).lt
              have V10 := (V9.below hb).below d8
              have hw8 := hb.size
              simp only [World.size_alloc] at hw8
              have HSM2 : Hid (∀ V' B1 B2, ImgO V' B1 m2 → Img B2 V' s2 g2 → Calls Tryz.prog 13 #[.agg #[.int .i64 m2.s.number, .int .i64 m2.s.mark, .slice m2.P m2.pl.length m2.cp, .slice m2.E m2.s.entries.length m2.ce], .agg #[.int .i64 s2.number, .int .i64 s2.mark, .slice g2.P g2.pl.length g2.cp, .slice g2.E s2.entries.length g2.ce]] V' fun e w' => e = .returned (.bool true) ∧ Below V'.heap.size V' w') := Lib.hid (fun V' B1 B2 h h' => rimages_any ys (by rw [HYL.out]; omega) m2 s2 g2 B1 B2 V' HM2.out HS2.out h h')
              unfold imV at LQ3 o5 o6 LP4 V10
              have p0 := LP4.cell 0; have p1 := LP4.cell 1; have p2 := LP4.cell 2; have p3 := LP4.cell 3
              have q0 := LQ3.cell 0; have q1 := LQ3.cell 1; have q2 := LQ3.cell 2; have q3 := LQ3.cell 3
              simp only [List.getElem?_toArray, List.getElem?_cons_zero, List.getElem?_cons_succ] at p0 p1 p2 p3 q0 q1 q2 q3
              clear I4 hb d8 V9 o3 LP3 hs2
              go_wp2_with fail
              refine (HSM2.out _ _ _ o5 o6).mono ?_; rintro e w9 ⟨rfl, hb⟩
              have V11 := V10.below hb
              clear V10 hb p0 p1 p2 p3 q0 q1 q2 q3 o5 o6 LP4 LQ3
              have p0 : w9.cell? ⟨pb, 0, none⟩ = some (.int .i64 m.s.number) := V11.lp.cell 0
              have p1 : w9.cell? ⟨pb, 1, none⟩ = some (.int .i64 m.s.mark) := V11.lp.cell 1
              have p2 : w9.cell? ⟨pb, 2, none⟩ = some (.slice m.P m.pl.length m.cp) := V11.lp.cell 2
              have p3 : w9.cell? ⟨pb, 3, none⟩ = some (.slice m.E m.s.entries.length m.ce) := V11.lp.cell 3
              have q0 : w9.cell? ⟨qb, 0, none⟩ = some (.int .i64 s.number) := V11.lq.cell 0
              have q1 : w9.cell? ⟨qb, 1, none⟩ = some (.int .i64 s.mark) := V11.lq.cell 1
              have q2 : w9.cell? ⟨qb, 2, none⟩ = some (.slice g.P g.pl.length g.cp) := V11.lq.cell 2
              have q3 : w9.cell? ⟨qb, 3, none⟩ = some (.slice g.E s.entries.length g.ce) := V11.lq.cell 3
              go_wp2_with fail
              refine (HIM2.out _ V11).mono ?_; rintro e w10 ⟨rfl, hb⟩
              have b11 := below_then V11.b hb V11.b.size
              clear V11 hb p0 p1 p2 p3 q0 q1 q2 q3
              go_wp2_with fail
              refine (known_any _).mono ?_; rintro e w11 ⟨rfl, hb⟩
              go_wp2
              go_ret
              exact ⟨rfl, below_then BW.out (below_then b11 hb b11.size) BW.out.size⟩

set_option maxHeartbeats 1000000 in
theorem preads_any (A : Option Addr) (c : Nat) (xs : Bs) (i : Int) (v : UInt8) (w : World) (hr : Row w A (cellsB xs)) (hl : xs.length ≤ 9223372036854775807) (hcap : xs.length ≤ c) :
    Calls Tryz.prog 5 #[.slice A xs.length c, .int .i64 i, .int .u8 v.toNat] w fun e w' => e = .returned (.bool true) ∧ Below w.heap.size w w' := by
  by_cases hbig : 400000 < xs.length
  · obtain ⟨N, hN⟩ : ∃ N, N = xs.length := ⟨_, rfl⟩
    rw [← hN] at hbig hl ⊢
    have hb' : (400000 : Int) < (N : Int) := by omega
    clear hN hr hcap
    go_enter Tryz.func5, Tryz.ntmps5
    go_wp2
    go_ret
    exact ⟨rfl, Below.refl _ _⟩
  · exact preads_in A c xs i v w hr hbig hcap

theorem preads_row (A : Option Addr) (n c : Nat) (xs : Bs) (i b : Int) (w : World) (hn : n = xs.length) (hr : Row w A (cellsB xs)) (hcap : n ≤ c) (hm : c ≤ maxLen) (hb : (Lit.int .u8 b).wf = true) :
    Calls Tryz.prog 5 #[.slice A n c, .int .i64 i, .int .u8 b] w fun e w' => e = .returned (.bool true) ∧ Below w.heap.size w w' := by
  obtain ⟨v, rfl⟩ := byte_wf hb
  subst hn
  exact preads_any A c xs i v w hr (by unfold maxLen at hm; omega) hcap
end Go.Proofs.YtnieminnnkbneaaGreat
