/- Walk of octet.Reader.Text. -/
import Derived.Test.YtnieminnnkbneaaGreatOctR
namespace Go.Proofs.YtnieminnnkbneaaGreat
open Go.RowKit

theorem row_xs (r : Rdr) (m l : Nat) : (r.row m l).2.xs = r.xs := by
  unfold Rdr.row
  split
  · rfl
  · split
    split <;> rfl
theorem number_xs (r : Rdr) : r.number.2.xs = r.xs := row_xs r 9 127
theorem number_nonneg (r : Rdr) : 0 ≤ r.number.1 ∧ r.number.1 ≤ 9223372036854775807 := by
  have h := row9_lt r
  have e : r.number.1 = ((r.row 9 127).1 : Int) := rfl
  rw [e]; omega

theorem convEmpty (A : Option Addr) (c : Nat) (W : World) : (convert 33 9 (.slice A 0 c)).run Tryz.prog W = .ok (.string ⟨#[]⟩) W := by
  have h := run_ofBytes (P := Tryz.prog) 33 9 5 Tryz.underlying33 Tryz.underlying5 Tryz.underlying9 (W := W) (A := A) (xs := []) 0 c rfl (Row.nil _ _) (fun _ => rfl)
  simpa using h

set_option maxRecDepth 100000 in
set_option maxHeartbeats 2000000 in
theorem rtext_any (r : Nat) (s : Rdr) (most : Int) (hm0 : -9223372036854775808 ≤ most) (hm1 : most ≤ 9223372036854775807) (w : World) (h : Rd w r s) :
    Calls Tryz.prog 99 #[.pointer (some ⟨r, 0, none⟩), .int .i64 most] w fun e w' => e = .returned (.string (ofBs (s.text most).1)) ∧ RdStep w w' r (s.text most).2 := by
  by_cases he : s.err = 0
  · obtain ⟨d, h0, h1, h2, h3⟩ := id h
    have c1 := blk_cell h0 1
    simp at c1
    have hxs := number_xs s
    have hnn := number_nonneg s
    obtain ⟨n, q, hnq⟩ : ∃ n q, s.number = (n, q) := ⟨_, _, rfl⟩
    have hnum := rnumber_any r s w h
    have htext : s.text most = if q.err ≠ 0 then ([], q) else if (if most < 0 then 0 else most) < n then ([], s.fail 4) else if ((q.xs.length : Int) - q.pos) < n then ([], s.fail 2) else ((q.xs.drop q.pos).take n.toNat, { q with pos := q.pos + n.toNat }) := by
      have hmax : max most 0 = if most < 0 then 0 else most := by split <;> omega
      simp only [Rdr.text, he, hnq, hmax]; rfl
    rw [hnq] at hxs hnn hnum
    simp only at hxs hnn hnum
    obtain ⟨hn0, hn1⟩ := hnn
    have HT := Lib.hid htext
    have HE := Lib.hid he
    have HXS := Lib.hid hxs
    have HNUM := Lib.hid hnum
    clear htext he hxs hnq hnum h0 h1
    go_enter Tryz.func99, Tryz.ntmps99
    go_wp2_with fail
    refine (stopped_no _ s _ h HE.out).mono ?_; rintro e w' ⟨rfl, rfl⟩
    go_wp2_with fail
    refine HNUM.out.mono ?_; rintro e w1 ⟨rfl, hS⟩
    obtain ⟨d1, g0, g1, g2, g3⟩ := id hS.1
    have k0 := blk_cell g0 0
    have k1 := blk_cell g0 1
    have k2 := blk_cell g0 2
    have m1 := blk_free g0 1
    have m2 := blk_free g0 2
    have hne := blk_ne g1 g0 (by decide)
    simp at k0 k1 k2
    have G1 := Lib.hid g1
    clear g0 g1 c1
    by_cases hq : q.err = 0
    · have ht : (q.err != 0) = false := by simp [hq]
      have HQ := Lib.hid hq
      by_cases hmx : (if most < 0 then 0 else most) < n
      · have hres : s.text most = ([], s.fail 4) := by rw [HT.out, if_neg (by simp [hq]), if_pos hmx]
        have HR := Lib.hid hres
        have hfin : RdStep w ((w1.setCell ⟨r, 2, none⟩ (.int .i64 4)).setCell ⟨r, 1, none⟩ (.int .i64 s.pos)) r (s.fail 4) := by
          have h5 := hS.then ((hS.1.setErr 4).then ((hS.1.setErr 4).1.setPos s.pos (by show s.pos ≤ q.xs.length; rw [HXS.out]; exact h2)))
          have e : ({ q.fail 4 with pos := s.pos } : Rdr) = s.fail 4 := by simp only [Rdr.fail, HXS.out]
          rw [e] at h5; exact h5
        have HF := Lib.hid hfin
        clear hq hres hfin
        go_wp2
        all_goals
          go_ret
          rw [HR.out]
          exact ⟨rfl, HF.out⟩
      · by_cases hsh : ((q.xs.length : Int) - q.pos) < n
        · have hres : s.text most = ([], s.fail 2) := by rw [HT.out, if_neg (by simp [hq]), if_neg hmx, if_pos hsh]
          have HR := Lib.hid hres
          have hfin : ∀ k, RdStep w (((w1.drewN k).setCell ⟨r, 2, none⟩ (.int .i64 2)).setCell ⟨r, 1, none⟩ (.int .i64 s.pos)) r (s.fail 2) := by
            intro k
            have h4 := hS.drewN k
            have h5 := h4.then ((h4.1.setErr 2).then ((h4.1.setErr 2).1.setPos s.pos (by show s.pos ≤ q.xs.length; rw [HXS.out]; exact h2)))
            have e : ({ q.fail 2 with pos := s.pos } : Rdr) = s.fail 2 := by simp only [Rdr.fail, HXS.out]
            rw [e] at h5; exact h5
          clear hq hres
          go_wp2
          all_goals
            go_quiet (fail)
            go_wp2
            go_ret
            rw [HR.out]
            exact ⟨rfl, hfin _⟩
        · have hres : s.text most = ((q.xs.drop q.pos).take n.toNat, { q with pos := q.pos + n.toNat }) := by rw [HT.out, if_neg (by simp [hq]), if_neg hmx, if_neg hsh]
          have HR := Lib.hid hres
          obtain ⟨m, rfl⟩ := Int.eq_ofNat_of_zero_le hn0
          clear hq hres
          have hlen : q.pos + m ≤ q.xs.length := by omega
          have hsz1 : (Tryz.prog.info? 5).map (·.size) = some 1 := by kernel_rfl
          have hsl0 : ∀ W, (Instr.slice 33 (.slice (some ⟨d1, 0, none⟩) q.xs.length q.xs.length) (some (.int .i64 (q.pos : Int))) (some (.int .i64 ((q.pos : Int) + (m : Int)))) none).run Tryz.prog W = .ok (.slice (subAddr (some ⟨d1, 0, none⟩) q.pos q.xs.length 1) (q.pos + m - q.pos) (q.xs.length - q.pos)) W := fun W => run_subs (P := Tryz.prog) 33 5 1 Tryz.underlying33 hsz1 (some ⟨d1, 0, none⟩) q.xs.length q.xs.length q.pos (q.pos + m) (by omega) hlen W
          have hsl1 : ∀ W, (Instr.sliceAt 33 (.slice (some ⟨d1, 0, none⟩) q.xs.length q.xs.length) (some (.int .i64 (q.pos : Int))) (some (.int .i64 ((q.pos : Int) + (m : Int)))) none).run Tryz.prog W = .ok (.slice (subAddr (some ⟨d1, 0, none⟩) q.pos q.xs.length 1) (q.pos + m - q.pos) (q.xs.length - q.pos)) W := fun W => run_subsAt (P := Tryz.prog) 33 5 1 Tryz.underlying33 hsz1 (some ⟨d1, 0, none⟩) q.xs.length q.xs.length q.pos (q.pos + m) (by omega) hlen W
          have hrow : Row w1 (some ⟨d1, 0, none⟩) (cellsB q.xs) := .inr ⟨d1, 0, rfl, fun j hj => by rw [blk_cell G1.out]; simp⟩
          have hrow2 := hrow.subs 1 q.pos m q.xs.length (by simp [cellsB]) (by simp [cellsB]; omega)
          obtain ⟨A', hA'⟩ : ∃ A', A' = subAddr (some ⟨d1, 0, none⟩) q.pos q.xs.length 1 := ⟨_, rfl⟩
          obtain ⟨c', hc'⟩ : ∃ c', c' = q.xs.length - q.pos := ⟨_, rfl⟩
          obtain ⟨bs, hbs⟩ : ∃ bs, bs = (q.xs.drop q.pos).take m := ⟨_, rfl⟩
          have hbl : m = bs.length := by rw [hbs]; simp; omega
          have hAn : A' ≠ none := by rw [hA']; unfold subAddr; split <;> simp
          rw [← hA', show (cellsB q.xs |>.drop (q.pos * 1) |>.take m) = cellsB bs from by rw [hbs]; simp [cellsB]] at hrow2
          simp only [← hA', ← hc', Nat.add_sub_cancel_left] at hsl0 hsl1
          have hconv : ∀ j k, (convert 33 9 (.slice A' m c')).run Tryz.prog (((w1.drewN j).setCell ⟨r, 1, none⟩ (.int .i64 ((q.pos : Int) + (m : Int)))).drewN k) = .ok (.string ⟨bs.toArray⟩) (((w1.drewN j).setCell ⟨r, 1, none⟩ (.int .i64 ((q.pos : Int) + (m : Int)))).drewN k) := by
            intro j k
            have hk : Keep w1.heap.size (· = r) w1 (((w1.drewN j).setCell ⟨r, 1, none⟩ (.int .i64 ((q.pos : Int) + (m : Int)))).drewN k) :=
              ((((Keep.refl _ (· = r) w1).drewN j).setCell (.inr rfl) _).drewN k)
            refine run_ofBytes (P := Tryz.prog) 33 9 5 Tryz.underlying33 Tryz.underlying5 Tryz.underlying9 (A := A') m c' hbl (hrow2.keep hk (Nat.le_refl _) ?_) (fun h => absurd h hAn)
            intro a ha hbr
            rw [hA'] at ha
            have : a.block = d1 := by
              unfold subAddr at ha
              split at ha
              · cases ha; rfl
              · simp at ha; rw [← ha]; unfold Addr.add; split <;> rfl
            exact hne (by rw [← this]; exact hbr)
          have hwr : IntKind.i64.wrap (q.pos : Int) = (q.pos : Int) := by simp [IntKind.bits, IntKind.wrap, IntKind.signed]; omega
          have hfin : ∀ j k, RdStep w (((w1.drewN j).setCell ⟨r, 1, none⟩ (.int .i64 ((q.pos : Int) + (m : Int)))).drewN k) r { q with pos := q.pos + m } := fun j k =>
            ((hS.drewN j).then ((hS.drewN j).1.setPos (q.pos + m) hlen)).drewN k
          have HR' : Hid (s.text most = (bs, { q with pos := q.pos + m })) := Lib.hid (by rw [HR.out, hbs]; rfl)
          clear hA' hc' hbs hbl hrow hrow2 HR
          go_wp2
          all_goals
            go_quiet (fail)
            go_wp2
            go_quiet (fail)
            go_wp2
            go_ret
            rw [HR'.out]
            exact ⟨rfl, hfin _ _⟩
    · have ht : (q.err != 0) = true := by simp [hq]
      have hres : s.text most = ([], q) := by rw [HT.out, if_pos hq]
      have HR := Lib.hid hres
      clear hq hres
      go_wp2
      go_ret
      rw [HR.out]
      exact ⟨rfl, hS⟩
  · have hb : s.text most = ([], s) := by simp [Rdr.text, he]
    have HB := Lib.hid hb
    have HE := Lib.hid he
    clear hb he
    go_enter Tryz.func99, Tryz.ntmps99
    go_wp2_with (go_at_call 58; refine (stopped_yes _ s _ h HE.out).mono ?_; rintro e w' ⟨rfl, rfl⟩)
    go_ret
    rw [HB.out]
    exact ⟨rfl, RdStep.refl h⟩
end Go.Proofs.YtnieminnnkbneaaGreat
