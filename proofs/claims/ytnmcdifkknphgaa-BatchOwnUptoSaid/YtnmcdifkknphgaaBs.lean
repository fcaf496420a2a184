/- Walk of treadleref12.Same. -/
import Derived.Test.YtnmcdifkknphgaaBdd
namespace Go.Proofs.Ytnmcdifkknphgaa
open Go.RowKit

theorem txn_take {l : List TxnC} {k : Nat} (h : k < l.length) : (l.map (·.t)).take (k + 1) = (l.map (·.t)).take k ++ [(l[k]).t] := by
  rw [List.take_succ_eq_append_getElem (by simpa using h)]
  simp

theorem Txn.ne_iff {x y : Txn} : x = y ↔ x.kind = y.kind ∧ x.name = y.name ∧ x.proc = y.proc ∧ x.args = y.args := by
  cases x; cases y
  simp only [Txn.mk.injEq]
  exact ⟨fun ⟨a, b, c, d⟩ => ⟨a, c, b, d⟩, fun ⟨a, c, b, d⟩ => ⟨a, b, c, d⟩⟩

/-- What Same answers. -/
def BSame (f1 f2 : Int) (l m : List Txn) (e : Ending) : Prop := ∃ res, e = .returned (.bool res) ∧ (res = true ↔ f1 = f2 ∧ l = m)

theorem BSame.yes {f1 f2 : Int} {l m : List Txn} (h : f1 = f2) (h2 : l = m) : BSame f1 f2 l m (.returned (.bool true)) := ⟨true, rfl, by simp [h, h2]⟩
theorem BSame.no {f1 f2 : Int} {l m : List Txn} (h : f1 = f2 → l ≠ m) : BSame f1 f2 l m (.returned (.bool false)) := ⟨false, rfl, by simpa using h⟩

set_option maxRecDepth 100000 in
set_option maxHeartbeats 4000000 in
theorem brefSame_any (f1 f2 : Int) (l m : List TxnC) (A B : Option Addr) (ca cb : Nat) (w : World) (ha : Row w A (txnsCells l)) (hb : Row w B (txnsCells m)) (hla : l.length ≤ 140737488355328) (hlb : m.length ≤ 140737488355328)
    (hol : ∀ x ∈ l, x.ok w) (hom : ∀ x ∈ m, x.ok w) (hfl : ∀ x ∈ l, x.fit) (hfm : ∀ x ∈ m, x.fit) :
    Calls Try.prog 20 #[.agg #[.int .i64 f1, .slice A l.length ca], .agg #[.int .i64 f2, .slice B m.length cb]] w fun e w' => BSame f1 f2 (l.map (·.t)) (m.map (·.t)) e ∧ Below w.heap.size w w' := by
  have HA := Lib.hid ha
  have HB := Lib.hid hb
  have HOL := Lib.hid hol
  have HOM := Lib.hid hom
  have HFL := Lib.hid hfl
  have HFM := Lib.hid hfm
  obtain ⟨N, hN⟩ : ∃ N, N = l.length := ⟨_, rfl⟩
  obtain ⟨M, hM⟩ : ∃ M, M = m.length := ⟨_, rfl⟩
  rw [← hN] at hla ⊢
  rw [← hM] at hlb ⊢
  have HN := Lib.hid hN
  have HM := Lib.hid hM
  clear ha hb hol hom hfl hfm hN hM
  go_enter Try.func20, Try.ntmps20
  have b0 : Below w.heap.size w ((w.alloc (.cells #[.int .i64 f1, .slice A N ca] 24)).alloc (.cells #[.int .i64 f2, .slice B M cb] 24)) :=
    ((Below.refl w.heap.size w).alloc (Nat.le_refl _) _).alloc (by simp) _
  have LP := (Loc.new w #[.int .i64 f1, .slice A N ca] 24).alloc (.cells #[.int .i64 f2, .slice B M cb] 24)
  have LQ := Loc.new (w.alloc (.cells #[.int .i64 f1, .slice A N ca] 24)) #[.int .i64 f2, .slice B M cb] 24
  simp only [World.size_alloc] at LQ
  by_cases h1 : f1 = f2
  · by_cases h3 : N = M
    · subst h1 h3
      go_wp2
      go_loopw [5] (fun i wr => ∃ k : Nat, k ≤ N ∧ i = .int .i64 k ∧ Below w.heap.size w wr ∧ Loc wr w.heap.size #[.int .i64 f1, .slice A N ca] 24 ∧ Loc wr (w.heap.size + 1) #[.int .i64 f1, .slice B N cb] 24 ∧ Hid ((l.map (·.t)).take k = (m.map (·.t)).take k)) (fun i _ => N - (intOf i).toNat)
      case atStart => exact ⟨0, Nat.zero_le _, rfl, b0, LP, LQ, rfl⟩
      case round =>
        obtain ⟨wi, rfl⟩ : ∃ wi, wi = wr := ⟨_, rfl⟩
        obtain ⟨k, hk, rfl, bi, LPi, LQi, HTK⟩ := hrel
        clear b0 LP LQ
        have p1 := LPi.cell 1; have q1 := LQi.cell 1
        simp at p1 q1
        have l1 := LPi.lt; have l2 := LQi.lt
        by_cases hkn : k < N
        · have hkp : k < l.length := by rw [← HN.out]; exact hkn
          have hkq : k < m.length := by rw [← HM.out]; exact hkn
          obtain ⟨b, off, rfl, hbl, hc⟩ := (HA.out.of_below bi (Nat.le_refl _)).txns (by omega)
          obtain ⟨b', off', rfl, hbl', hc'⟩ := (HB.out.of_below bi (Nat.le_refl _)).txns (by omega)
          have hcx := hc k hkp
          have hcy := hc' k hkq
          have hx1 := txn_take hkp
          have hy1 := txn_take hkq
          have hne : (l[k]).t ≠ (m[k]).t → l.map (·.t) ≠ m.map (·.t) := fun h e => h (by
            have e1 : (l.map (·.t))[k]'(by simpa using hkp) = (m.map (·.t))[k]'(by simpa using hkq) := by simp only [e]
            simpa using e1)
          have hox := (HOL.out _ (List.getElem_mem hkp)).below bi
          have hoy := (HOM.out _ (List.getElem_mem hkq)).below bi
          have hfx := HFL.out _ (List.getElem_mem hkp)
          have hfy := HFM.out _ (List.getElem_mem hkq)
          generalize l[k] = X at *
          generalize m[k] = Y at *
          obtain ⟨⟨xk, ⟨xn, xa, xc⟩, xm, xv⟩, XA, xca, XB, xcb⟩ := X
          obtain ⟨⟨yk, ⟨yn, ya, yc⟩, ym, yv⟩, YA, yca, YB, ycb⟩ := Y
          have x0 := hcx 0 (by decide); have x1 := hcx 1 (by decide); have x2 := hcx 2 (by decide); have x3 := hcx 3 (by decide); have x4 := hcx 4 (by decide); have x5 := hcx 5 (by decide)
          have y0 := hcy 0 (by decide); have y1 := hcy 1 (by decide); have y2 := hcy 2 (by decide); have y3 := hcy 3 (by decide); have y4 := hcy 4 (by decide); have y5 := hcy 5 (by decide)
          simp only [TxnC.cells, List.getElem?_toArray, List.getElem?_cons_zero, List.getElem?_cons_succ, Nat.add_zero] at x0 x1 x2 x3 x4 x5 y0 y1 y2 y3 y4 y5
          have hva := hfx.a; have hvb := hfy.a
          simp only at hva hvb
          obtain ⟨nx, hnx⟩ : ∃ nx, nx = xv.length := ⟨_, rfl⟩
          obtain ⟨ny, hny⟩ : ∃ ny, ny = yv.length := ⟨_, rfl⟩
          rw [← hnx] at x5 hva
          rw [← hny] at y5 hvb
          have HNX := Lib.hid hnx
          have HNY := Lib.hid hny
          clear hnx hny
          have hkn' : (k : Int) < (N : Int) := by omega
          simp only at hx1 hy1 hne
          have HX := Lib.hid hx1
          have HY := Lib.hid hy1
          have HNE := Lib.hid hne
          clear hc hc' hx1 hy1 hne hcx hcy
          have b2 : Below w.heap.size w ((wi.alloc (.cells #[.int .i64 xk, .string xn, .int .i64 xa, .slice XB xc.length xcb, .string xm, .slice XA nx xca] 30)).alloc (.cells #[.int .i64 yk, .string yn, .int .i64 ya, .slice YB yc.length ycb, .string ym, .slice YA ny yca] 30)) := (bi.alloc bi.size _).alloc (by have := bi.size; simp; omega) _
          have ba : Below wi.heap.size wi ((wi.alloc (.cells #[.int .i64 xk, .string xn, .int .i64 xa, .slice XB xc.length xcb, .string xm, .slice XA nx xca] 30)).alloc (.cells #[.int .i64 yk, .string yn, .int .i64 ya, .slice YB yc.length ycb, .string ym, .slice YA ny yca] 30)) := ((Below.refl wi.heap.size wi).alloc (Nat.le_refl _) _).alloc (by simp) _
          by_cases ek : xk = yk
          · subst ek
            by_cases em : xm = ym
            · subst em
              by_cases el : nx = ny
              · subst el
                have LX := (Loc.new wi #[.int .i64 xk, .string xn, .int .i64 xa, .slice XB xc.length xcb, .string xm, .slice XA nx xca] 30).alloc (.cells #[.int .i64 xk, .string yn, .int .i64 ya, .slice YB yc.length ycb, .string xm, .slice YA nx yca] 30)
                have LY := Loc.new (wi.alloc (.cells #[.int .i64 xk, .string xn, .int .i64 xa, .slice XB xc.length xcb, .string xm, .slice XA nx xca] 30)) #[.int .i64 xk, .string yn, .int .i64 ya, .slice YB yc.length ycb, .string xm, .slice YA nx yca] 30
                simp only [World.size_alloc] at LY
                have hbx := hox.below ba
                have hby := hoy.below ba
                have hsm := fun W (h1 : Row W XB (codeCells xc)) (h2 : Row W YB (codeCells yc)) => refSame_any ⟨xn, xa, xc⟩ ⟨yn, ya, yc⟩ XB YB xcb ycb W h1 h2 hfx.c hfy.c
                unfold procCells at hsm
                have LPa := LPi.below ba l1
                have LQa := LQi.below ba l2
                have HSM := Lib.hid hsm
                clear hsm
                go_wp2_with fail
                refine (HSM.out _ hbx.b hby.b).mono ?_; rintro e w3 ⟨⟨res, rfl, hres⟩, hb3⟩
                have HRES := Lib.hid hres
                have b3 := below_then b2 hb3 (by have := bi.size; simp; omega)
                have ba3 := below_then ba hb3 (by simp; omega)
                have LX3 := LX.below hb3 LX.lt
                have LY3 := LY.below hb3 LY.lt
                have LP3 := LPa.below hb3 LPa.lt
                have LQ3 := LQa.below hb3 LQa.lt
                have rx := hbx.a.of_below hb3 (Nat.le_refl _)
                have ry := hby.a.of_below hb3 (Nat.le_refl _)
                have g1 := LX3.cell 5; have g2 := LY3.cell 5
                simp at g1 g2 rx ry
                clear hres b2 ba LX LY LPa LQa hb3 HSM x0 x1 x2 x3 x4 x5 y0 y1 y2 y3 y4 y5 hox hoy hbx hby hfx hfy p1 q1
                cases res with
                | false =>
                  go_wp2
                  go_ret
                  exact ⟨BSame.no (fun _ => HNE.out (fun h => by have := HRES.out.2 (Txn.ne_iff.1 h).2.2.1; simp at this)), b3⟩
                | true =>
                  have hpr := HRES.out.1 rfl
                  have HPR := Lib.hid hpr
                  clear hpr HRES
                  go_wp2
                  go_loopw [8] (fun i wr => ∃ j : Nat, j ≤ nx ∧ i = .int .i64 j ∧ (∃ d, wr = w3.drewN d) ∧ Hid (xv.take j = yv.take j)) (fun i _ => nx - (intOf i).toNat)
                  case atStart => exact ⟨0, Nat.zero_le _, rfl, ⟨0, rfl⟩, rfl⟩
                  case round =>
                    obtain ⟨wj, rfl⟩ : ∃ wj, wj = wr := ⟨_, rfl⟩
                    obtain ⟨j, hj, rfl, ⟨d, rfl⟩, HTJ⟩ := hrel
                    by_cases hjn : j < nx
                    · have hjx : j < xv.length := by rw [← HNX.out]; exact hjn
                      have hjy : j < yv.length := by rw [← HNY.out]; exact hjn
                      obtain ⟨c, o, rfl, _, hc⟩ := rx.vals (by omega)
                      obtain ⟨c', o', rfl, _, hc'⟩ := ry.vals (by omega)
                      have hcx := hc j hjx
                      have hcy := hc' j hjy
                      have hx2 : xv.take (j + 1) = xv.take j ++ [xv[j]] := List.take_succ_eq_append_getElem hjx
                      have hy2 : yv.take (j + 1) = yv.take j ++ [yv[j]] := List.take_succ_eq_append_getElem hjy
                      have hnv : xv[j] ≠ yv[j] → xv ≠ yv := fun h e => h (by subst e; rfl)
                      generalize xv[j] = X at *
                      generalize yv[j] = Y at *
                      have hq := fun W => eqInVal 9998 X Y W
                      obtain ⟨res, hres⟩ : ∃ res, res = X.eqv Y := ⟨_, rfl⟩
                      rw [← hres] at hq
                      have hiff := Val.eqv_iff X Y
                      rw [← hres] at hiff
                      obtain ⟨x1, x2, x3⟩ := X
                      obtain ⟨y1, y2, y3⟩ := Y
                      have x0 := hcx 0 (by decide); have x1' := hcx 1 (by decide); have x2' := hcx 2 (by decide)
                      have y0 := hcy 0 (by decide); have y1' := hcy 1 (by decide); have y2' := hcy 2 (by decide)
                      simp only [valCells, List.getElem?_toArray, List.getElem?_cons_zero, List.getElem?_cons_succ, Nat.add_zero] at x0 x1' x2' y0 y1' y2' hq
                      have hjn' : (j : Int) < (nx : Int) := by omega
                      have HX2 := Lib.hid hx2
                      have HY2 := Lib.hid hy2
                      have HNV := Lib.hid hnv
                      have HIFF := Lib.hid hiff
                      have hq2 : ∀ W, (Op.equal 57 (.agg #[.int .i64 x1, .int .i64 x2, .string x3]) (.agg #[.int .i64 y1, .int .i64 y2, .string y3])).run Try.prog W = .ok res W := hq
                      clear hc hc' hx2 hy2 hnv hcx hcy hiff hres rx ry hq
                      cases res with
                      | true =>
                        go_wp2
                        refine wp_region_quiet_lit (by kernel_rfl) (by kernel_rfl) ?_
                        repeat (quiet_step (fail))
                        refine wpQuiet_step (fun K hK => ?_)
                        rw [if_pos (by rfl)]
                        refine quiet_neq _ _ _ _ rfl true _ _ rfl rfl hq2 (fun w => by kernel_rfl) ?_
                        refine hK _ ?_
                        clear hK K
                        refine wpQuiet_nil ?_
                        intro _ hw'
                        obtain ⟨nq, hw''⟩ := hw'
                        subst hw''
                        simp only [Act.put, List.setIfInBounds_toArray, List.set_cons_zero, List.set_cons_succ, Bool.not_true]
                        go_wp2
                        go_roundw
                        case rel => exact ⟨j + 1, by omega, by go_num, ⟨_, rfl⟩, Lib.hid (by rw [HX2.out, HY2.out, HTJ.out, HIFF.out.1 (by simp)])⟩
                        case measure => simp [intOf]; omega
                      | false =>
                        go_wp2
                        refine wp_region_quiet_lit (by kernel_rfl) (by kernel_rfl) ?_
                        repeat (quiet_step (fail))
                        refine wpQuiet_step (fun K hK => ?_)
                        rw [if_pos (by rfl)]
                        refine quiet_neq _ _ _ _ rfl false _ _ rfl rfl hq2 (fun w => by kernel_rfl) ?_
                        refine hK _ ?_
                        clear hK K
                        refine wpQuiet_nil ?_
                        intro _ hw'
                        obtain ⟨nq, hw''⟩ := hw'
                        subst hw''
                        simp only [Act.put, List.setIfInBounds_toArray, List.set_cons_zero, List.set_cons_succ, Bool.not_false]
                        go_wp2
                        go_ret
                        exact ⟨BSame.no (fun _ => HNE.out (fun h => HNV.out (fun h' => by have := HIFF.out.2 h'; simp at this) (Txn.ne_iff.1 h).2.2.2)), below_drewN (below_drewN b3 _) _⟩
                    · obtain rfl : j = nx := by omega
                      go_wp2
                      go_roundw
                      case rel =>
                        refine ⟨k + 1, by omega, by go_num, below_drewN b3 _, LP3.drewN _, LQ3.drewN _, Lib.hid ?_⟩
                        have h := HTJ.out
                        rw [List.take_of_length_le (by rw [← HNX.out]; exact Nat.le_refl _), List.take_of_length_le (by rw [← HNY.out]; exact Nat.le_refl _)] at h
                        rw [HX.out, HY.out, HTK.out, h, HPR.out]
                      case measure => simp [intOf]; omega
              · go_wp2
                go_ret
                exact ⟨BSame.no (fun _ => HNE.out (fun h => el (by rw [HNX.out, HNY.out]; exact congrArg List.length (Txn.ne_iff.1 h).2.2.2))), b2⟩
            · have em' : ¬ xm.toList = ym.toList := fun h => em (ba_eq.1 h)
              have HEM := Lib.hid em
              clear em
              go_wp2
              go_ret
              exact ⟨BSame.no (fun _ => HNE.out (fun h => HEM.out (Txn.ne_iff.1 h).2.1)), b2⟩
          · have ht : (xk != yk) = true := by simpa using ek
            go_wp2
            go_ret
            exact ⟨BSame.no (fun _ => HNE.out (fun h => ek (Txn.ne_iff.1 h).1)), b2⟩
        · obtain rfl : k = N := by omega
          go_wp2
          go_ret
          refine ⟨BSame.yes rfl ?_, bi⟩
          have h := HTK.out
          rw [List.take_of_length_le (by rw [List.length_map, ← HN.out]; exact Nat.le_refl _), List.take_of_length_le (by rw [List.length_map, ← HM.out]; exact Nat.le_refl _)] at h
          exact h
    · have hne : l.map (·.t) ≠ m.map (·.t) := fun h => h3 (by have := congrArg List.length h; simp only [List.length_map] at this; rw [HN.out, HM.out, this])
      have HNE := Lib.hid hne
      have k0 := LP.cell 0; have k1 := LP.cell 1; have j0 := LQ.cell 0; have j1 := LQ.cell 1
      clear hne
      subst h1
      go_wp2
      go_ret
      exact ⟨BSame.no (fun _ => HNE.out), b0⟩
  · have HNE := Lib.hid h1
    go_wp2
    go_ret
    exact ⟨BSame.no (fun h => absurd h HNE.out), b0⟩
end Go.Proofs.Ytnmcdifkknphgaa
