/- Walk of ProcDecodes. -/
import Derived.Test.YtkggjjipgjijbaaRefL
import Derived.Test.YtkggjjipgjijbaaEnc
import Derived.Test.YtkggjjipgjijbaaLaw3
import Derived.Laws.CopyOwn
namespace Go.Proofs.Ytkggjjipgjijbaa
open Go.RowKit

theorem cellsB_set (xs : Bs) (k : Nat) (v : UInt8) : (cellsB xs).toArray.setIfInBounds k (.int .u8 v.toNat) = (cellsB (xs.set k v)).toArray := by
  simp [cellsB, List.map_set]

theorem marks_step (N k : Nat) (h : k < N) : (List.replicate k (171 : UInt8) ++ List.replicate (N - k) 0).set k 171 = List.replicate (k + 1) 171 ++ List.replicate (N - (k + 1)) 0 := by
  obtain ⟨m, hm⟩ : ∃ m, N - k = m + 1 := ⟨N - k - 1, by omega⟩
  rw [hm, show N - (k + 1) = m by omega, List.set_append_right _ _ (by simp), List.length_replicate, Nat.sub_self, List.replicate_succ, List.set_cons_zero, List.replicate_succ']
  simp

/-- Two of the same procedure. -/
theorem refSame_yes (p : Prc) (A B : Option Addr) (ca cb : Nat) (w : World) (ha : Row w A (codeCells p.code)) (hb : Row w B (codeCells p.code)) (hl : p.code.length ≤ 140737488355328) :
    Calls Try.prog 20 #[.agg (procCells p.name p.args A p.code.length ca), .agg (procCells p.name p.args B p.code.length cb)] w fun e w' => e = .returned (.bool true) ∧ Below w.heap.size w w' :=
  (refSame_any p p A B ca cb w ha hb hl hl).mono fun e w' ⟨⟨res, he, hi⟩, hb⟩ => ⟨by rw [he, hi.2 rfl], hb⟩

theorem made_marks (N : Nat) : madeCells #[.int .u8 0] N = (cellsB (List.replicate N (0 : UInt8))).toArray := by
  unfold madeCells cellsB
  apply Array.ext
  · simp
  · intro j h1 h2
    simp [Nat.mod_one]

/-- What stands in memory behind the two decodings. -/
structure VSt (w W : World) (pb qb : Nat) (ys : Array Value) (p : Prc) (A1 A2 : Option Addr) (c1 c2 : Nat) : Prop where
  l : Loc W w.heap.size ys 5
  lp : Loc W pb #[.string p.name, .int .i64 p.args, .slice A1 p.code.length c1] 24
  lq : Loc W qb #[.string p.name, .int .i64 p.args, .slice A2 p.code.length c2] 24
  o : W.ownsRow w.heap.size 28 8 (.slice A1 p.code.length c1) p.code.length (codeCells p.code)
  q : W.ownsRow w.heap.size 28 8 (.slice A2 p.code.length c2) p.code.length (codeCells p.code)
  b : Below w.heap.size w W

theorem VSt.below {w W X : World} {pb qb : Nat} {ys : Array Value} {p : Prc} {A1 A2 : Option Addr} {c1 c2 : Nat} (h : VSt w W pb qb ys p A1 A2 c1 c2) (hb : Below W.heap.size W X) : VSt w X pb qb ys p A1 A2 c1 c2 :=
  ⟨h.l.below hb h.l.lt, h.lp.below hb h.lp.lt, h.lq.below hb h.lq.lt, owns_mono' h.o hb, owns_mono' h.q hb, below_then h.b hb h.b.size⟩

theorem VSt.set {w W : World} {pb qb : Nat} {ys : Array Value} {p : Prc} {A1 A2 : Option Addr} {c1 c2 : Nat} (h : VSt w W pb qb ys p A1 A2 c1 c2) (k : Nat) (v : Value) :
    VSt w (W.setCell ⟨w.heap.size, k, none⟩ v) pb qb (ys.setIfInBounds k v) p A1 A2 c1 c2 :=
  ⟨h.l.set k v, h.lp.other (a := ⟨w.heap.size, k, none⟩) (h.lp.ne h.l (by decide)) v, h.lq.other (a := ⟨w.heap.size, k, none⟩) (h.lq.ne h.l (by decide)) v,
    owns_setCell (a := ⟨w.heap.size, k, none⟩) h.o (owns_ne h.o h.l (by decide)) v, owns_setCell (a := ⟨w.heap.size, k, none⟩) h.q (owns_ne h.q h.l (by decide)) v, h.b.setCell (p := ⟨w.heap.size, k, none⟩) (Nat.le_refl _) v⟩

theorem procDecode_len (xs : Bs) : (procDecode xs).1.code.length ≤ 64 := by
  obtain ⟨p, e, h⟩ : ∃ p e, procDecode xs = (p, e) := ⟨_, _, rfl⟩
  rw [h]
  rcases Classical.em (e = 0) with h0 | h0
  · subst h0
    obtain ⟨_, _, hl, _⟩ := procCheck_zero (proc_form h).1
    exact hl
  · rw [procDecode_err h h0]
    exact Nat.zero_le _

theorem run_upto {P : Program} (t e : TypeId) (size : Nat) (hu : P.underlying t = some (.slice e)) (hs : (P.info? e).map (·.size) = some size) (g len cap hi : Nat) (h2 : hi ≤ cap) (h3 : 0 < cap) (W : World) :
    (Instr.slice t (.slice (some ⟨g, 0, none⟩) len cap) none (some (.int .i64 (hi : Int))) none).run P W = .ok (.slice (some ⟨g, 0, none⟩) hi cap) W := by
  obtain ⟨i, hi', hsz⟩ : ∃ i, P.info? e = some i ∧ i.size = size := by
    cases h : P.info? e with
    | none => simp [h] at hs
    | some i => exact ⟨i, rfl, by simpa [h] using hs⟩
  have eh : (hi : Int).toNat = hi := rfl
  have ha : (⟨g, 0, none⟩ : Addr).add 0 = ⟨g, 0, none⟩ := rfl
  have hne : ¬ cap = 0 := by omega
  simp [Instr.slice, run_underlying hu, Instr.sliceBounds, run_sliceBound, sizeOf, typeInfo, hi', h2, ha, hne]

set_option maxRecDepth 100000 in
set_option maxHeartbeats 2000000 in
theorem decodes_any (A : Option Addr) (c : Nat) (xs : Bs) (i : Int) (v : UInt8) (w : World) (hr : Row w A (cellsB xs)) (hl : xs.length ≤ 9223372036854775807) (hz : A = none → xs.length = 0) (hcap : xs.length ≤ c) :
    Calls Try.prog 5 #[.slice A xs.length c, .int .i64 i, .int .u8 v.toNat] w fun e w' => e = .returned (.bool true) ∧ Below w.heap.size w w' := by
  obtain ⟨N, hN⟩ : ∃ N, N = xs.length := ⟨_, rfl⟩
  by_cases hbig : 65536 < xs.length
  · rw [← hN] at hbig hl ⊢
    have hb' : (65536 : Int) < (N : Int) := by omega
    clear hN hr hz hcap
    go_enter Try.func5, Try.ntmps5
    go_wp2
    go_ret
    exact ⟨rfl, Below.refl _ _⟩
  · obtain ⟨i0, hi, hz0, hz1, hz2⟩ := info_parts infoU8
    have hb' : ¬ (65536 : Int) < (N : Int) := by omega
    have hN9 : N ≤ 65536 := by omega
    have hdec := fun B d W (ys : Bs) (hy : ys.length = N) (h : Row W B (cellsB ys)) (hB : B = none → N = 0) => pdecode_any B N d ys W h hy.symm hB (by omega)
    have href : ∀ B d W (ys : Bs), ys.length = N → Row W B (cellsB ys) → (B = none → N = 0) → N ≤ d → Calls Try.prog 19 #[.slice B N d] W (DPost ys W) := fun B d W ys hy h hB hd => by
      have h1 := refDecode_any B d ys W h (by omega) (by rw [hy]; exact hB) (by omega)
      rw [hy] at h1
      exact h1
    have hsame := fun B d W (h : Row W B (cellsB xs)) (h2 : Row W A (cellsB xs)) => same_yes B A d c xs W h h2 (by omega)
    rw [← hN] at hsame hcap hz ⊢
    have hwm : IntKind.i64.wrap ((N : Int) + 9) = ((N + 9 : Nat) : Int) := by simp [IntKind.bits, IntKind.wrap, IntKind.signed]; omega
    have HROW := Lib.hid hr
    have HN := Lib.hid hN
    have HZ := Lib.hid hz
    have HDEC := Lib.hid hdec
    have HREF := Lib.hid href
    have HSAME := Lib.hid hsame
    have Hz2 := Lib.hid hz2
    clear hr hN hz hdec href hsame hz2 hbig hl
    go_enter Try.func5, Try.ntmps5
    go_wp2_with (at_make; refine wpList_make_row _ rfl _ _ 38 rfl 5 i0 (.int .u8 0) Try.underlying38 hi hz0 hz1 rfl .i64 .i64 (N + 9) rfl rfl (by rw [Hz2.out]; omega) (by omega) ?_)
    have L0 := Loc.new w (madeCells #[.int .u8 0] (N + 9)) 5
    have b0 := (Below.refl w.heap.size w).alloc (Nat.le_refl _) (.cells (madeCells #[.int .u8 0] (N + 9)) 5)
    go_loopw [8] (fun i wr => ∃ k : Nat, k ≤ N + 9 ∧ i = .int .i64 k ∧ Loc wr w.heap.size (cellsB (List.replicate k (171 : UInt8) ++ List.replicate (N + 9 - k) 0)).toArray 5 ∧ Below w.heap.size w wr) (fun i _ => N + 9 - (intOf i).toNat)
    case atStart =>
      refine ⟨0, Nat.zero_le _, rfl, ?_, b0⟩
      rw [List.replicate_zero, List.nil_append, Nat.sub_zero, ← made_marks]
      exact L0
    case round =>
      obtain ⟨wi, rfl⟩ : ∃ wi, wi = wr := ⟨_, rfl⟩
      obtain ⟨k, hk, rfl, Li, bi⟩ := hrel
      clear L0 b0
      by_cases hkN : k < N + 9
      · have c0 := Li.cell k
        have f0 := Li.free k
        obtain ⟨u, hu⟩ : ∃ u, (cellsB (List.replicate k (171 : UInt8) ++ List.replicate (N + 9 - k) 0)).toArray[k]? = some u := ⟨_, Array.getElem?_eq_getElem (by simp [cellsB]; omega)⟩
        rw [hu] at c0
        have L1 := Li.set k (.int .u8 (171 : UInt8).toNat)
        rw [cellsB_set, marks_step _ _ hkN] at L1
        have b1 := bi.setCell (p := ⟨w.heap.size, k, none⟩) (Nat.le_refl _) (.int .u8 (171 : UInt8).toNat)
        have hkI : (k : Int) < (N : Int) + 9 := by omega
        have h171 : (((171 : UInt8).toNat : Nat) : Int) = 171 := rfl
        rw [h171] at L1 b1
        clear Li bi hu h171
        go_wp2
        go_roundw
        case rel => exact ⟨k + 1, by omega, by go_num, L1, b1⟩
        case measure => simp [intOf]; omega
      · obtain rfl : k = N + 9 := by omega
        rw [Nat.sub_self, List.replicate_zero, List.append_nil] at Li
        have hsp : splice (cellsB (List.replicate (N + 9) (171 : UInt8))) 0 (cellsB xs) = cellsB (xs ++ List.replicate 9 171) := by
          unfold splice
          rw [List.take_zero, List.nil_append, Nat.zero_add, cellsB_length, cellsB_append]
          congr 1
          simp [cellsB, ← HN.out]
        have HSP := Lib.hid hsp
        have hpos : 0 < (cellsB xs).length → (some (⟨w.heap.size, 0, none⟩ : Addr)) = some ⟨w.heap.size, 0, none⟩ ∧ ∃ ad, A = some ad ∧ ∀ j v, (cellsB xs)[j]? = some v → wi.cell? (ad.add j) = some v := by
          intro hp
          obtain ⟨b, off, rfl, hbl, hc⟩ := (HROW.out.of_below bi (Nat.le_refl _)).at hp
          refine ⟨rfl, _, rfl, fun j v hj => ?_⟩
          have hadd : (⟨b, off, none⟩ : Addr).add j = ⟨b, off + j, none⟩ := by unfold Addr.add; split <;> simp_all
          rw [hadd, hc j (by rcases Nat.lt_or_ge j (cellsB xs).length with h | h; exact h; rw [List.getElem?_eq_none h] at hj; cases hj)]
          exact hj
        have HPOS := Lib.hid hpos
        clear hsp hpos
        go_wp2_with (refine wpList_copy_splice rfl _ _ 38 38 rfl 5 Try.underlying38 (by rw [hi]; exact congrArg some hz1) (some ⟨w.heap.size, 0, none⟩) A (N + 9) (N + 9) N c rfl rfl w.heap.size 0 (cellsB (List.replicate (N + 9) (171 : UInt8))) 5 Li (cellsB xs) (by rw [cellsB_length, ← HN.out]; simp) HPOS.out (by rw [cellsB_length, cellsB_length, ← HN.out]; simp) (cellsB_one xs) w.heap.size w bi (Nat.le_refl _) ?_; intro w2 HL2 b2)
        have hL2 := HL2.out
        rw [HSP.out] at hL2
        have L2 : Loc w2 w.heap.size (cellsB (xs ++ List.replicate 9 171)).toArray 5 := hL2
        have hup := run_upto (P := Try.prog) 38 5 1 Try.underlying38 (by rw [hi]; exact congrArg some hz1) w.heap.size (N + 9) (N + 9) N (by omega) (by omega)
        have hrow : ∀ {W : World} {ys : Bs}, Loc W w.heap.size (cellsB (ys ++ List.replicate 9 171)).toArray 5 → Row W (some ⟨w.heap.size, 0, none⟩) (cellsB ys) := fun h => by
          have h' := Row.of_loc h
          rw [cellsB_append] at h'
          exact h'.fore
        have HR2 : Hid (∀ {W : World} {ys : Bs}, Loc W w.heap.size (cellsB (ys ++ List.replicate 9 171)).toArray 5 → Row W (some ⟨w.heap.size, 0, none⟩) (cellsB ys)) := Lib.hid hrow
        clear hL2 HL2 HPOS hrow Li bi
        obtain ⟨p, pe, hpe⟩ : ∃ p pe, procDecode xs = (p, pe) := ⟨_, _, rfl⟩
        have HPE := Lib.hid hpe
        clear hpe
        go_wp2_with fail
        refine (HDEC.out (some ⟨w.heap.size, 0, none⟩) (N + 9) w2 xs HN.out.symm (HR2.out L2) (fun h => by cases h)).mono ?_; rintro e w3 ⟨A1, c1, rfl, own1, hb⟩
        rw [HPE.out] at own1 ⊢
        simp only at own1 ⊢
        unfold procCells at *
        have LP1 := Loc.new w3 #[.string p.name, .int .i64 p.args, .slice A1 p.code.length c1] 24
        have d3 := (Below.refl w3.heap.size w3).alloc (Nat.le_refl _) (.cells #[.string p.name, .int .i64 p.args, .slice A1 p.code.length c1] 24)
        have L3 := (L2.below hb L2.lt).below d3 (L2.below hb L2.lt).lt
        have o3 := owns_mono' own1 d3
        have b3 := below_then (below_then b2 hb b2.size) d3 (below_then b2 hb b2.size).size
        have hw3 := (below_then b2 hb b2.size).size
        have o3 := owns_mono o3 b2.size
        have hpl : p.code.length ≤ 64 := by
          have h := procDecode_len xs
          rw [HPE.out] at h
          exact h
        clear own1 hb d3 L2 b2
        go_wp2_with fail
        refine (HREF.out A c _ xs HN.out.symm (HROW.out.of_below b3 (Nat.le_refl _)) HZ.out hcap).mono ?_; rintro e w4 ⟨A2, c2, rfl, own2, hb⟩
        rw [HPE.out] at own2 ⊢
        simp only at own2 ⊢
        unfold procCells at *
        have LQ1 := Loc.new w4 #[.string p.name, .int .i64 p.args, .slice A2 p.code.length c2] 24
        have d4 := (Below.refl w4.heap.size w4).alloc (Nat.le_refl _) (.cells #[.string p.name, .int .i64 p.args, .slice A2 p.code.length c2] 24)
        have LP4 := (LP1.below hb LP1.lt).below d4 (LP1.below hb LP1.lt).lt
        have L4 := (L3.below hb L3.lt).below d4 (L3.below hb L3.lt).lt
        have o4 := owns_mono' (owns_mono' o3 hb) d4
        have b4 := below_then (below_then b3 hb b3.size) d4 (below_then b3 hb b3.size).size
        have q4 := owns_mono (owns_mono' own2 d4) b3.size
        have hw4 := hb.size
        simp only [World.size_alloc] at hw4
        obtain ⟨p0, p1, p2, _⟩ := loc_three LP4
        obtain ⟨q0, q1, q2, _⟩ := loc_three LQ1
        clear own2 hb d4 LP1 L3 b3 o3
        have V : VSt w _ w3.heap.size w4.heap.size (cellsB (xs ++ List.replicate 9 171)).toArray p A1 A2 c1 c2 := ⟨L4, LP4, LQ1, o4, q4, b4⟩
        clear L4 LP4 LQ1 o4 q4 b4
        have hsm := fun B d W (h1 : Row W A1 (codeCells p.code)) (h2 : Row W B (codeCells p.code)) => refSame_yes p A1 B c1 d W h1 h2 (by omega)
        unfold procCells at hsm
        have HSM := Lib.hid hsm
        clear hsm
        go_wp2_with fail
        refine (HSM.out A2 c2 _ (Row.of_owns V.o) (Row.of_owns V.q)).mono ?_; rintro e w5 ⟨rfl, hb⟩
        have V5 := V.below hb
        clear V hb p0 p1 p2 q0 q1 q2
        go_wp2_with fail
        refine (HSAME.out _ _ _ (HR2.out V5.l) (HROW.out.of_below V5.b (Nat.le_refl _))).mono ?_; rintro e w6 ⟨rfl, hb⟩
        have V6 := V5.below hb
        clear V5 hb
        go_wp2
        go_loop [13] (fun i => ∃ k : Nat, N ≤ k ∧ k ≤ N + 9 ∧ i = .int .i64 k) (fun i => N + 9 - (intOf i).toNat)
        case atStart => exact ⟨N, Nat.le_refl _, by omega, rfl⟩
        case round =>
          obtain ⟨k, hk1, hk2, rfl⟩ := hrel
          by_cases hk9 : k < N + 9
          · have c0 := V6.l.cell k
            have hx : (cellsB (xs ++ List.replicate 9 171)).toArray[k]? = some (.int .u8 171) := by
              have h1 : (xs ++ List.replicate 9 (171 : UInt8))[k]? = some 171 := by
                rw [List.getElem?_append_right (by rw [← HN.out]; exact hk1), List.getElem?_replicate, if_pos (by rw [← HN.out]; omega)]
              simp only [cellsB, List.getElem?_toArray, List.getElem?_map, h1]
              rfl
            rw [hx] at c0
            have hkI : (k : Int) < (N : Int) + 9 := by omega
            clear hx
            go_wp2
            go_round
            case rel => exact ⟨k + 1, by omega, by omega, by go_num⟩
            case measure => simp [intOf]; omega
          · obtain rfl : k = N + 9 := by omega
            by_cases hN0 : N = 0
            · subst hN0
              go_wp2_with fail
              refine (known_any _).mono ?_; rintro e w7 ⟨rfl, hb⟩
              go_wp2
              go_ret
              exact ⟨rfl, below_then V6.b hb V6.b.size⟩
            · obtain ⟨k, hk, hcase⟩ := idx_case i N (by omega)
              have hN0' : ((N : Int) == 0) = false := by simp; omega
              obtain ⟨ys, hys⟩ : ∃ ys, ys = xs.set k v := ⟨_, rfl⟩
              have hyl : ys.length = N := by rw [hys, List.length_set, ← HN.out]
              have V7 := V6.set k (.int .u8 v.toNat)
              rw [cellsB_set, List.set_append_left _ _ (by rw [← HN.out]; exact hk), ← hys] at V7
              have c0 := V6.l.cell k
              have f0 := V6.l.free k
              obtain ⟨u, hu⟩ : ∃ u, (cellsB (xs ++ List.replicate 9 171)).toArray[k]? = some u := ⟨_, Array.getElem?_eq_getElem (by simp [cellsB, ← HN.out]; omega)⟩
              rw [hu] at c0
              obtain ⟨r, re, hre⟩ : ∃ r re, procDecode ys = (r, re) := ⟨_, _, rfl⟩
              have hrl : r.code.length ≤ 64 := by
                have h := procDecode_len ys
                rw [hre] at h
                exact h
              have HRE := Lib.hid hre
              have HYL := Lib.hid hyl
              clear hys hyl hu hre V6
              rcases hcase with ⟨h1, h2⟩ | ⟨h1, h2⟩
              all_goals
                have hkI : (k : Int) < (N : Int) + 9 := by omega
                go_wp2_with fail
                refine (HDEC.out (some ⟨w.heap.size, 0, none⟩) (N + 9) _ ys HYL.out (HR2.out V7.l) (fun h => by cases h)).mono ?_; rintro e w7 ⟨A3, c3, rfl, own3, hb⟩
                rw [HRE.out] at own3 ⊢
                simp only at own3 ⊢
                unfold procCells at *
                have V8 := V7.below hb
                have LP3 := Loc.new w7 #[.string r.name, .int .i64 r.args, .slice A3 r.code.length c3] 24
                have d7 := (Below.refl w7.heap.size w7).alloc (Nat.le_refl _) (.cells #[.string r.name, .int .i64 r.args, .slice A3 r.code.length c3] 24)
                have o3 := owns_mono' own3 d7
                have V9 := V8.below d7
                clear own3 hb d7 V7 V8 c0 f0
                go_wp2_with fail
                refine (HREF.out (some ⟨w.heap.size, 0, none⟩) (N + 9) _ ys HYL.out (HR2.out V9.l) (fun h => by cases h) (by omega)).mono ?_; rintro e w8 ⟨A4, c4, rfl, own4, hb⟩
                rw [HRE.out] at own4 ⊢
                simp only at own4 ⊢
                unfold procCells at *
                have LQ3 := Loc.new w8 #[.string r.name, .int .i64 r.args, .slice A4 r.code.length c4] 24
                have d8 := (Below.refl w8.heap.size w8).alloc (Nat.le_refl _) (.cells #[.string r.name, .int .i64 r.args, .slice A4 r.code.length c4] 24)
                have o5 := owns_mono' (owns_mono' o3 hb) d8
                have o6 := owns_mono' own4 d8
                have LP4 := (LP3.below hb LP3.lt).below d8 (LP3.below hb LP3.lt).lt
                have V10 := (V9.below hb).below d8
                obtain ⟨p0, p1, p2, _⟩ := loc_three LP4
                obtain ⟨q0, q1, q2, _⟩ := loc_three LQ3
                have hw8 := hb.size
                simp only [World.size_alloc] at hw8
                have hsm := fun B d W (h1 : Row W A3 (codeCells r.code)) (h2 : Row W B (codeCells r.code)) => refSame_yes r A3 B c3 d W h1 h2 (by omega)
                unfold procCells at hsm
                have HSM2 := Lib.hid hsm
                clear own4 hb d8 V9 o3 LP3 hsm
                go_wp2_with fail
                refine (HSM2.out A4 c4 _ (Row.of_owns o5) (Row.of_owns o6)).mono ?_; rintro e w9 ⟨rfl, hb⟩
                have V11 := V10.below hb
                obtain ⟨g0, g1, g2, _⟩ := loc_three V11.lp
                obtain ⟨j0, j1, j2, _⟩ := loc_three V11.lq
                clear V10 hb p0 p1 p2 q0 q1 q2 o5 o6 LP4 LQ3
                go_wp2_with fail
                refine (HSM.out A2 c2 _ (Row.of_owns V11.o) (Row.of_owns V11.q)).mono ?_; rintro e w10 ⟨rfl, hb⟩
                have b11 := below_then V11.b hb V11.b.size
                clear V11 hb g0 g1 g2 j0 j1 j2
                go_wp2_with fail
                refine (known_any _).mono ?_; rintro e w11 ⟨rfl, hb⟩
                go_wp2
                go_ret
                exact ⟨rfl, below_then b11 hb b11.size⟩

theorem byte_wf {n : Int} (h : (Lit.int .u8 n).wf = true) : ∃ v : UInt8, n = (v.toNat : Int) := by
  have h' : 0 ≤ n ∧ n < 256 := by
    simp [Lit.wf, IntKind.min, IntKind.max, IntKind.bits, IntKind.signed] at h
    omega
  exact ⟨UInt8.ofNat n.toNat, by rw [UInt8.toNat_ofNat']; omega⟩

theorem decodes_row (A : Option Addr) (n c : Nat) (xs : Bs) (i b : Int) (w : World) (hn : n = xs.length) (hr : Row w A (cellsB xs)) (hz : A = none → n = 0) (hcap : n ≤ c) (hm : c ≤ maxLen) (hb : (Lit.int .u8 b).wf = true) :
    Calls Try.prog 5 #[.slice A n c, .int .i64 i, .int .u8 b] w fun e w' => e = .returned (.bool true) ∧ Below w.heap.size w w' := by
  obtain ⟨v, rfl⟩ := byte_wf hb
  subst hn
  exact decodes_any A c xs i v w hr (by unfold maxLen at hm; omega) hz hcap
end Go.Proofs.Ytkggjjipgjijbaa
