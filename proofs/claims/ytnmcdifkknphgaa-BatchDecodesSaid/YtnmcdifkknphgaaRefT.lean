/- Walks of treadleref1's TakeText, End, Read. -/
import Derived.Test.YtnmcdifkknphgaaRefR
namespace Go.Proofs.Ytnmcdifkknphgaa
open Go.RowKit

theorem rowGo_le (xs : Bs) (pos most last : Nat) : ∀ f i u v n, Rdr.rowGo xs pos most last f i u = (0, v, n) → pos + n ≤ xs.length
  | 0, i, u, v, n, h => by simp [Rdr.rowGo] at h
  | f + 1, i, u, v, n, h => by
    rw [Rdr.rowGo] at h
    split at h
    · simp at h
    · rename_i b hb
      have hi : pos + i < xs.length := (List.getElem?_eq_some_iff.1 hb).1
      split at h
      · simp at h
      · split at h
        · split at h
          · simp at h
          · simp at h; omega
        · exact rowGo_le xs pos most last f _ _ v n h

theorem row_pos {s : Rdr} {most last : Nat} (h : s.pos ≤ s.xs.length) : (s.row most last).2.pos ≤ s.xs.length := by
  unfold Rdr.row
  split
  · exact h
  · rcases hg : Rdr.rowGo s.xs s.pos most last most 0 0 with ⟨e, u, n⟩
    simp only
    split
    · rename_i he
      subst he
      exact rowGo_le _ _ _ _ _ _ _ _ _ hg
    · exact h

theorem number_pos {s : Rdr} (h : s.pos ≤ s.xs.length) : s.number.2.pos ≤ s.xs.length := row_pos (most := 9) (last := 127) h
theorem int_pos {s : Rdr} (h : s.pos ≤ s.xs.length) : s.int.2.pos ≤ s.xs.length := row_pos (most := 10) (last := 1) h
theorem int_xs (r : Rdr) : r.int.2.xs = r.xs := row_xs r 10 1

theorem loc_put4a {w0 w : World} {b : Nat} {v0 v1 v2 v3 : Value} {t : TypeId} (h : Loc w b #[v0, v1, v2, v3] t) (hb : Below w0.heap.size w0 w) (hw : w0.heap.size ≤ b) (u0 u1 u2 u3 : Value) (o : Obj) :
    ((put4 w b u0 u1 u2 u3).alloc o).cell? ⟨b, 0, none⟩ = some u0 ∧ ((put4 w b u0 u1 u2 u3).alloc o).cell? ⟨b, 1, none⟩ = some u1 ∧ ((put4 w b u0 u1 u2 u3).alloc o).cell? ⟨b, 2, none⟩ = some u2 ∧ ((put4 w b u0 u1 u2 u3).alloc o).cell? ⟨b, 3, none⟩ = some u3 ∧
      Below w0.heap.size w0 ((put4 w b u0 u1 u2 u3).alloc o) := by
  obtain ⟨_, _, _, _, L, be⟩ := h.put4 hb hw u0 u1 u2 u3
  obtain ⟨e0, e1, e2, e3, _⟩ := (L.alloc o).four
  exact ⟨e0, e1, e2, e3, be.alloc be.size o⟩

set_option maxRecDepth 100000 in
set_option maxHeartbeats 4000000 in
theorem rttext_any (A : Option Addr) (c : Nat) (s : Rdr) (st most : Int) (hm0 : -9223372036854775808 ≤ most) (hm1 : most ≤ 9223372036854775807) (w : World) (hr : Row w A (cellsB s.xs)) (hp : s.pos ≤ s.xs.length) (hl : s.xs.length ≤ 140737488355328) (hz : A = none → s.xs.length = 0) (hcap : s.xs.length ≤ c) :
    Calls Try.prog 74 #[.agg (rvC A s.xs.length c s.pos s.err st), .int .i64 most] w (RTk A s.xs.length c (.string (ofBs (s.text most).1)) (s.text most).2 w) := by
  by_cases he : s.err = 0
  · have hnn := number_nonneg s
    have hxs := number_xs s
    have hpp := number_pos hp
    obtain ⟨n, q, hnq⟩ : ∃ n q, s.number = (n, q) := ⟨_, _, rfl⟩
    have hnum := fun W (h : Below w.heap.size w W) => rtnumber_any A c s st W (hr.of_below h (Nat.le_refl _)) hp hl hz
    have hend := fun e0 W => rends_any A s.xs.length c s.pos 0 st e0 W
    have htext : s.text most = if q.err ≠ 0 then ([], q) else if (if most < 0 then 0 else most) < n then ([], s.fail 4) else if ((q.xs.length : Int) - q.pos) < n then ([], s.fail 2) else ((q.xs.drop q.pos).take n.toNat, { q with pos := q.pos + n.toNat }) := by
      have hmax : max most 0 = if most < 0 then 0 else most := by split <;> omega
      simp only [Rdr.text, he, hnq, hmax]; rfl
    rw [hnq] at hxs hnn hpp hnum
    simp only at hxs hnn hpp hnum
    obtain ⟨hn0, hn1⟩ := hnn
    rw [hxs] at htext
    obtain ⟨xs, pos, err⟩ := s
    simp only at he hp hl hz hcap hpp hnum hend hr hxs htext
    subst he
    obtain ⟨N, hN⟩ : ∃ N, N = xs.length := ⟨_, rfl⟩
    rw [← hN] at hp hl hz hcap hpp hnum hend htext ⊢
    obtain ⟨T, hT⟩ : ∃ T, T = (⟨xs, pos, 0⟩ : Rdr).text most := ⟨_, rfl⟩
    rw [← hT] at htext ⊢
    have HNUM := Lib.hid hnum
    have HEND := Lib.hid hend
    have HT := Lib.hid htext
    have HN := Lib.hid hN
    have HROW := Lib.hid hr
    have HZ := Lib.hid hz
    have HXS := Lib.hid hxs
    clear hnq hnum hend htext hT hN hr hz hxs
    unfold rvC at *
    go_enter Try.func74, Try.ntmps74
    go_wp2_with fail
    refine (HNUM.out _ (((Below.refl _ _).alloc (Nat.le_refl _) _).alloc (by simp) _)).mono ?_; rintro e w1 ⟨st', rfl, hb⟩
    unfold rvC
    obtain ⟨L1, Z1, b1⟩ := below_four hb
    clear hb HNUM
    obtain ⟨qxs, qp, qe⟩ := q
    simp only at hpp ⊢
    have hlt0 := L1.lt
    have hlt1 := Z1.lt
    have b2 := b1.alloc b1.size (.cells #[.slice A N c, .int .i64 (qp : Int), .int .i64 qe, .int .i64 st'] 95)
    obtain ⟨l0, l1, l2, l3, _⟩ := L1.four
    obtain ⟨z0, z1, z2, z3, f0, f1, f2, f3⟩ := Z1.four
    have Z2 := Z1.alloc (.cells #[.slice A N c, .int .i64 (qp : Int), .int .i64 qe, .int .i64 st'] 95)
    by_cases hq : qe = 0
    · subst hq
      by_cases hmx : (if most < 0 then 0 else most) < n
      · have hres : T = ([], (⟨xs, pos, 0⟩ : Rdr).fail 4) := by rw [HT.out, if_neg (by simp), if_pos hmx]
        have HR := Lib.hid hres
        clear hres HT
        go_wp2_with fail
        all_goals
          refine (HEND.out 4 _).mono ?_; rintro e w2 ⟨rfl, hb2⟩
          have Z3 := Z2.below hb2 Z2.lt
          have b3 := below_then b2 hb2 b2.size
          clear z0 z1 z2 z3 f0 f1 f2 f3
          obtain ⟨z0, z1, z2, z3, f0, f1, f2, f3⟩ := Z3.four
          obtain ⟨e0, e1, e2, e3, _, be⟩ := Z3.put4 b3 (Nat.le_succ _) (.slice A N c) (.int .i64 pos) (.int .i64 4) (.int .i64 pos)
          have HE := Lib.hid (And.intro e0 (And.intro e1 (And.intro e2 e3)))
          clear HEND e0 e1 e2 e3 L1 Z1 Z2 Z3 b1 b2 b3 hb2
          go_wp2
          obtain ⟨e0, e1, e2, e3⟩ := HE.out
          unfold put4 at e0 e1 e2 e3
          refine bodyPost_ret (v := .tuple #[.string ⟨#[]⟩, .agg #[.slice A N c, .int .i64 pos, .int .i64 4, .int .i64 pos]]) (by simp [results, Try.results74, go_sem, e0, e1, e2, e3]) rfl ?_
          unfold RTk
          rw [HR.out]
          exact ⟨pos, rfl, be⟩
      · by_cases hsh : ((N : Int) - qp) < n
        · have hres : T = ([], (⟨xs, pos, 0⟩ : Rdr).fail 2) := by rw [HT.out, if_neg (by simp), if_neg hmx, if_pos hsh]
          have HR := Lib.hid hres
          clear hres HT
          go_wp2_with fail
          all_goals
            refine (HEND.out 2 _).mono ?_; rintro e w2 ⟨rfl, hb2⟩
            have Z3 := Z2.below hb2 Z2.lt
            have b3 := below_then b2 hb2 b2.size
            clear z0 z1 z2 z3 f0 f1 f2 f3
            obtain ⟨z0, z1, z2, z3, f0, f1, f2, f3⟩ := Z3.four
            obtain ⟨e0, e1, e2, e3, _, be⟩ := Z3.put4 b3 (Nat.le_succ _) (.slice A N c) (.int .i64 pos) (.int .i64 2) (.int .i64 pos)
            have HE := Lib.hid (And.intro e0 (And.intro e1 (And.intro e2 e3)))
            clear HEND e0 e1 e2 e3 L1 Z1 Z2 Z3 b1 b2 b3 hb2
            go_wp2
            obtain ⟨e0, e1, e2, e3⟩ := HE.out
            unfold put4 at e0 e1 e2 e3
            refine bodyPost_ret (v := .tuple #[.string ⟨#[]⟩, .agg #[.slice A N c, .int .i64 pos, .int .i64 2, .int .i64 pos]]) (by simp [results, Try.results74, go_sem, e0, e1, e2, e3]) rfl ?_
            unfold RTk
            rw [HR.out]
            exact ⟨pos, rfl, be⟩
        · have hxs : qxs = xs := HXS.out
          have hres : T = ((xs.drop qp).take n.toNat, ⟨xs, qp + n.toNat, 0⟩) := by rw [HT.out, if_neg (by simp), if_neg hmx, if_neg hsh, ← hxs]
          obtain ⟨m, rfl⟩ := Int.eq_ofNat_of_zero_le hn0
          have hlen : qp + m ≤ N := by omega
          have hsz1 : (Try.prog.info? 5).map (·.size) = some 1 := by kernel_rfl
          have hsl0 : ∀ W, (Instr.slice 39 (.slice A N c) (some (.int .i64 (qp : Int))) (some (.int .i64 ((qp : Int) + (m : Int)))) none).run Try.prog W = .ok (.slice (subAddr A qp c 1) (qp + m - qp) (c - qp)) W := fun W => run_subs (P := Try.prog) 39 5 1 Try.underlying39 hsz1 A N c qp (qp + m) (by omega) (by omega) W
          have hrow2 := HROW.out.subs 1 qp m c (by rw [cellsB_length, ← HN.out]; omega) (by rw [cellsB_length, ← HN.out]; omega)
          obtain ⟨A', hA'⟩ : ∃ A', A' = subAddr A qp c 1 := ⟨_, rfl⟩
          obtain ⟨c', hc'⟩ : ∃ c', c' = c - qp := ⟨_, rfl⟩
          obtain ⟨bs, hbs⟩ : ∃ bs, bs = (xs.drop qp).take m := ⟨_, rfl⟩
          have hbl : m = bs.length := by rw [hbs]; simp; rw [← HN.out]; omega
          have hAn : A' = none → m = 0 := fun h => by
            have h1 : A = none := by
              rw [hA'] at h
              unfold subAddr at h
              split at h
              · exact h
              · simpa using h
            have := HZ.out h1
            omega
          rw [← hA', show (cellsB xs |>.drop (qp * 1) |>.take m) = cellsB bs from by rw [hbs]; simp [cellsB]] at hrow2
          simp only [← hA', ← hc', Nat.add_sub_cancel_left] at hsl0
          have hconv : ∀ W, Below w.heap.size w W → (convert 39 9 (.slice A' m c')).run Try.prog W = .ok (.string ⟨bs.toArray⟩) W := fun W hW =>
            run_ofBytes (P := Try.prog) 39 9 5 Try.underlying39 Try.underlying5 Try.underlying9 (A := A') m c' hbl (hrow2.of_below hW (Nat.le_refl _)) hAn
          have hcv := hconv _ b2
          have HR : Hid (T = (bs, ⟨xs, qp + m, 0⟩)) := Lib.hid (by rw [hres, hbs]; rfl)
          obtain ⟨e0, e1, e2, e3, be⟩ := loc_put4a Z1 b1 (Nat.le_succ _) (.slice A N c) (.int .i64 ((qp : Int) + (m : Int))) (.int .i64 0) (.int .i64 st') (.cells #[.slice A N c, .int .i64 ((qp : Int) + (m : Int)), .int .i64 0, .int .i64 st'] 95)
          have HE := Lib.hid (And.intro e0 (And.intro e1 (And.intro e2 e3)))
          clear hA' hc' hbs hbl hrow2 hconv hres hxs hAn HEND e0 e1 e2 e3 L1 Z1 Z2 b1 b2
          go_wp2
          all_goals
            go_region
            go_wp2
            obtain ⟨e0, e1, e2, e3⟩ := HE.out
            unfold put4 at e0 e1 e2 e3
            refine bodyPost_ret (v := .tuple #[.string ⟨bs.toArray⟩, .agg #[.slice A N c, .int .i64 (qp + m), .int .i64 0, .int .i64 st']]) (by simp [results, Try.results74, go_sem, e0, e1, e2, e3]) rfl ?_
            unfold RTk
            rw [HR.out]
            exact ⟨st', rfl, be.drew⟩
    · have ht : (qe != 0) = true := by simp [hq]
      have hres : T = ([], ⟨qxs, qp, qe⟩) := by rw [HT.out, if_pos hq]
      have HR := Lib.hid hres
      clear hq hres HEND HT
      obtain ⟨e0, e1, e2, e3, be⟩ := loc_put4a Z1 b1 (Nat.le_succ _) (.slice A N c) (.int .i64 qp) (.int .i64 qe) (.int .i64 st') (.cells #[.slice A N c, .int .i64 (qp : Int), .int .i64 qe, .int .i64 st'] 95)
      have HE := Lib.hid (And.intro e0 (And.intro e1 (And.intro e2 e3)))
      clear e0 e1 e2 e3 L1 Z1 Z2 b1 b2
      go_wp2
      go_region
      all_goals
        go_wp2
        obtain ⟨e0, e1, e2, e3⟩ := HE.out
        unfold put4 at e0 e1 e2 e3
        refine bodyPost_ret (v := .tuple #[.string ⟨#[]⟩, .agg #[.slice A N c, .int .i64 qp, .int .i64 qe, .int .i64 st']]) (by simp [results, Try.results74, go_sem, e0, e1, e2, e3]) rfl ?_
        unfold RTk
        rw [HR.out]
        exact ⟨st', rfl, be.drew⟩
  · have hb : s.text most = ([], s) := by simp [Rdr.text, he]
    rw [hb]
    obtain ⟨N, hN⟩ : ∃ N, N = s.xs.length := ⟨_, rfl⟩
    obtain ⟨xs, pos, err⟩ := s
    simp only at *
    rw [← hN] at hp hl ⊢
    have he' : (err != 0) = true := by simpa using he
    clear hb hN hr he hz hcap
    unfold rvC
    go_enter Try.func74, Try.ntmps74
    go_wp2
    go_region
    all_goals
      go_wp2
      refine bodyPost_ret (v := .tuple #[.string ⟨#[]⟩, .agg #[.slice A N c, .int .i64 pos, .int .i64 err, .int .i64 st]]) (by simp [results, Try.results74, go_sem]) rfl ⟨st, rfl, ?_⟩
      exact (((Below.refl _ _).alloc (Nat.le_refl _) _).alloc (by simp) _).drew
theorem rtread_any (A : Option Addr) (n c : Nat) (w : World) :
    Calls Try.prog 40 #[.slice A n c] w fun e w' => e = .returned (.agg (rvC A n c 0 0 0)) ∧ Below w.heap.size w w' := by
  unfold rvC
  go_enter Try.func40, Try.ntmps40
  go_wp2
  refine bodyPost_ret (v := .agg #[.slice A n c, .int .i64 0, .int .i64 0, .int .i64 0]) (by simp [results, Try.results40, go_sem]) rfl ⟨rfl, ?_⟩
  exact (Below.refl _ _).alloc (Nat.le_refl _) _

theorem rtend_any (A : Option Addr) (c : Nat) (s : Rdr) (st : Int) (w : World) (hp : s.pos ≤ s.xs.length) (hl : s.xs.length ≤ 140737488355328) :
    Calls Try.prog 43 #[.agg (rvC A s.xs.length c s.pos s.err st)] w fun e w' => e = .returned (.int .i64 s.end_) ∧ Below w.heap.size w w' := by
  obtain ⟨xs, pos, err⟩ := s
  simp only at *
  obtain ⟨E, hE⟩ : ∃ E, E = (⟨xs, pos, err⟩ : Rdr).end_ := ⟨_, rfl⟩
  rw [← hE]
  have hend : E = if err = 0 ∧ pos < xs.length then 3 else err := hE
  obtain ⟨N, hN⟩ : ∃ N, N = xs.length := ⟨_, rfl⟩
  rw [← hN] at hp hl hend ⊢
  have HE := Lib.hid hend
  have b1 := (Below.refl w.heap.size w).alloc (Nat.le_refl _) (.cells #[.slice A N c, .int .i64 pos, .int .i64 err, .int .i64 st] 95)
  clear hE hend hN
  unfold rvC
  by_cases he : err = 0
  · subst he
    by_cases hlt : pos < N
    · have hr : E = 3 := by rw [HE.out, if_pos ⟨rfl, hlt⟩]
      have HR := Lib.hid hr
      have hlt' : (pos : Int) < (N : Int) := by omega
      clear hr hlt
      go_enter Try.func43, Try.ntmps43
      go_wp2
      go_ret
      rw [HR.out]
      exact ⟨rfl, b1⟩
    · have hr : E = 0 := by rw [HE.out, if_neg (by omega)]
      have HR := Lib.hid hr
      have hge : ¬ (pos : Int) < (N : Int) := by omega
      clear hr hlt
      go_enter Try.func43, Try.ntmps43
      go_wp2
      go_ret
      rw [HR.out]
      exact ⟨rfl, b1⟩
  · have hr : E = err := by rw [HE.out, if_neg (by omega)]
    have HR := Lib.hid hr
    have he' : (err == 0) = false := by simpa using he
    clear hr he
    go_enter Try.func43, Try.ntmps43
    go_wp2
    go_ret
    rw [HR.out]
    exact ⟨rfl, b1⟩
end Go.Proofs.Ytnmcdifkknphgaa
