/- Walk of treadleref14.frame. Printed by wip/gen_rff.py. -/
import Derived.Test.YtnieminnnkbneaaGreatMe
namespace Go.Proofs.YtnieminnnkbneaaGreat
open Go.RowKit
set_option linter.unusedVariables false

set_option maxRecDepth 100000 in
set_option maxHeartbeats 16000000 in
theorem r14frame_any (B : Nat) (w : World) (s : RS) (g : RG) (A : Option Addr) (c : Nat) (xs : Bs) (h : Img B w s g) (hB : B ≤ w.heap.size) (hr : Row w A (cellsB xs)) (hrB : ∀ a, A = some a → ¬ g.F a.block) (hl : xs.length ≤ 140737488355328) (hz : A = none → xs.length = 0) (hcap : xs.length ≤ c) (hne : s.entries.length ≤ 100000000000) (hpn : s.procs.length ≤ 100000000000) (hfr : s.frames ≤ 100000000000) :
  Calls Tryz.prog 31 #[.slice A xs.length c, .agg (s.pw s.frames).val, .agg (imV s g)] w (GPost B w g (decide ((Rdr.new xs).byte.1 = 4)) (rfFrame s xs)) := by
 have R0 : ResL B w ((((w.alloc (.cells (s.pw s.frames).val 29)).alloc (.cells (imV s g) 41)).alloc (.cells PW.zero.val 29)).alloc (.cells #[.int .i64 0, .int .i64 0, .slice none 0 0, .slice none 0 0] 41)) (w.heap.size + 2) (w.heap.size + 3) g s g PW.zero RS.zero RG.zero ∧
   VLoc ((((w.alloc (.cells (s.pw s.frames).val 29)).alloc (.cells (imV s g) 41)).alloc (.cells PW.zero.val 29)).alloc (.cells #[.int .i64 0, .int .i64 0, .slice none 0 0, .slice none 0 0] 41)) w.heap.size (s.pw s.frames) ∧
   Loc ((((w.alloc (.cells (s.pw s.frames).val 29)).alloc (.cells (imV s g) 41)).alloc (.cells PW.zero.val 29)).alloc (.cells #[.int .i64 0, .int .i64 0, .slice none 0 0, .slice none 0 0] 41)) (w.heap.size + 1) (imV s g) 41 := by
  have h2 := Loc.new w (s.pw s.frames).val 29
  have h3 := Loc.new (w.alloc (.cells (s.pw s.frames).val 29)) (imV s g) 41
  have h4 := Loc.new ((w.alloc (.cells (s.pw s.frames).val 29)).alloc (.cells (imV s g) 41)) PW.zero.val 29
  have h5 := Loc.new (((w.alloc (.cells (s.pw s.frames).val 29)).alloc (.cells (imV s g) 41)).alloc (.cells PW.zero.val 29)) #[.int .i64 0, .int .i64 0, .slice none 0 0, .slice none 0 0] 41
  simp only [World.size_alloc] at h3 h4 h5
  have b5 : Below w.heap.size w ((((w.alloc (.cells (s.pw s.frames).val 29)).alloc (.cells (imV s g) 41)).alloc (.cells PW.zero.val 29)).alloc (.cells #[.int .i64 0, .int .i64 0, .slice none 0 0, .slice none 0 0] 41)) :=
   ((((Below.refl w.heap.size w).alloc (Nat.le_refl _) _).alloc (by simp) _).alloc (by simp only [World.size_alloc]; omega) _).alloc (by simp only [World.size_alloc]; omega) _
  exact ⟨⟨Loc.alloc h4 _, h5, h.below b5, Keep.of_below b5 _, fun k hk => .inl hk, by omega, by omega, by omega⟩, Loc.alloc (Loc.alloc (Loc.alloc h2 _) _) _, (h3.alloc _).alloc _⟩
 obtain ⟨W0, hW0⟩ : ∃ W0, W0 = ((((w.alloc (.cells (s.pw s.frames).val 29)).alloc (.cells (imV s g) 41)).alloc (.cells PW.zero.val 29)).alloc (.cells #[.int .i64 0, .int .i64 0, .slice none 0 0, .slice none 0 0] 41)) := ⟨_, rfl⟩
 rw [← hW0] at R0
 obtain ⟨R0, V0, I0⟩ := R0
 have hsz0 : W0.heap.size = w.heap.size + 4 := by rw [hW0]; simp
 obtain ⟨k, q1, h1⟩ : ∃ k q1, (Rdr.new xs).byte = (k, q1) := ⟨_, _, rfl⟩
 obtain ⟨p, q2, h2⟩ : ∃ p q2, q1.number = (p, q2) := ⟨_, _, rfl⟩
 obtain ⟨Q, hQ⟩ : ∃ Q, Q = rfFrame s xs := ⟨_, rfl⟩
 have hq := hQ
 unfold rfFrame at hq
 rw [h1] at hq
 simp only [h2] at hq
 rw [← hQ, h1]
 simp only
 have hk256 := rbyte_lt (Rdr.new xs)
 have x1 := byte_xs (Rdr.new xs)
 have p1 := byte_pos (s := Rdr.new xs) (Nat.zero_le _)
 rw [h1] at hk256 x1 p1
 simp only [show (Rdr.new xs).xs = xs from rfl] at hk256 x1 p1
 have x2 := number_xs q1
 have p2 := number_pos (s := q1) (by rw [x1]; exact p1)
 have g2 := number_nonneg q1
 rw [h2] at x2 p2 g2
 rw [x1] at x2 p2
 simp only at x2 p2 g2
 have hrow : ∀ W, Keep w.heap.size g.F w W → Row W A (cellsB xs) := fun W hb => hr.keep hb (Nat.le_refl _) hrB
 have c1 := fun W (hb : Keep w.heap.size g.F w W) => rtbyte_any A c (Rdr.new xs) 0 W (hrow W hb) (Nat.zero_le _) hl
 have c2 := fun st W (hb : Keep w.heap.size g.F w W) => rtnumber_any A c q1 st W (by rw [x1]; exact hrow W hb) (by rw [x1]; exact p1) (by rw [x1]; exact hl) (by rw [x1]; exact hz)
 have crd := fun W => rtread_any A xs.length c W
 rw [h1] at c1
 rw [h2, x1] at c2
 obtain ⟨N, hN⟩ : ∃ N, N = xs.length := ⟨_, rfl⟩
 simp only [show (Rdr.new xs).xs = xs from rfl, show (Rdr.new xs).pos = 0 from rfl, show (Rdr.new xs).err = 0 from rfl, show ((0 : Nat) : Int) = 0 from rfl] at c1
 rw [← hN] at c1 c2 crd p1 p2 hq hl hcap
 rw [show (.slice A xs.length c : Value) = .slice A N c by rw [hN]]
 obtain ⟨kI, hkI⟩ : ∃ kI : Int, kI = (k : Int) := ⟨_, rfl⟩
 rw [← hkI] at c1
 have hk0 : 0 ≤ kI := by omega
 have hk1 : kI < 256 := by omega
 unfold rvC at c1 c2 crd
 have HN := Lib.hid hN
 have HQ := Lib.hid hq
 have HROW := Lib.hid hrow
 have HZ := Lib.hid hz
 have HLC := Lib.hid (And.intro hl hcap)
 have HX2 := Lib.hid x2
 have HP2 : Hid (q2.pos ≤ N) := Lib.hid p2
 have HNE : Hid (s.entries.length ≤ 100000000000 ∧ s.procs.length ≤ 100000000000 ∧ s.frames ≤ 100000000000) := Lib.hid ⟨hne, hpn, hfr⟩
 have C1 := Lib.hid c1
 have C2 := Lib.hid c2
 have CRD := Lib.hid crd
 have HKI := Lib.hid hkI
 have HRB := Lib.hid hrB
 have HW := Lib.hid hW0.symm
 clear hN hq hrow hz hl hcap x1 x2 p1 p2 hne hpn c1 c2 crd hW0 h1 h2 hQ hr hrB h hkI hk256
 unfold PW.val imV PW.zero RS.pw emptyB at HW
 unfold PW.val imV RS.pw
 simp only [show ((0 : Nat) : Int) = 0 from rfl] at HW ⊢
 go_enter Tryz.func31, Tryz.ntmps31
 go_upto_region 1 with (fail)
 rw [HW.out, show w.heap.size + 1 + 1 = w.heap.size + 2 from rfl, show w.heap.size + 2 + 1 = w.heap.size + 3 from rfl]
 clear HW
 go_upto_region 2 with (go_at_call 64; refine (CRD.out _).mono ?_; rintro e w1 ⟨rfl, hb⟩)
 have F1 : FrS B w (w1.alloc (.cells #[.slice A N c, .int .i64 0, .int .i64 0, .int .i64 0] 126)) g w1.heap.size A N c (Rdr.new xs) 0 (s.pw s.frames) s g :=
  ⟨Loc.new _ _ _, Loc.alloc (Loc.below V0 hb (Loc.lt V0)) _, (I0.below hb I0.lt).alloc _, (R0.below hb).below ((Below.refl _ _).alloc (Nat.le_refl _) _), by have := hb.size; omega⟩
 generalize hrbe : w1.heap.size = rb at F1 ⊢
 have hrb4 : w.heap.size + 4 ≤ rb := F1.hrb
 have HRB := Lib.hid hrbe
 obtain ⟨w2, hw2⟩ : ∃ w2, w2 = w1.alloc (.cells #[.slice A N c, .int .i64 0, .int .i64 0, .int .i64 0] 126) := ⟨_, rfl⟩
 rw [← hw2] at F1 ⊢
 clear hw2 hb R0 V0 I0 hsz0 CRD hrbe HRB
 have r0 : w2.cell? ⟨rb, 0, none⟩ = some (.slice A N c) := F1.lr.cell 0
 have r1 : w2.cell? ⟨rb, 1, none⟩ = some (.int .i64 0) := F1.lr.cell 1
 have r2 : w2.cell? ⟨rb, 2, none⟩ = some (.int .i64 0) := F1.lr.cell 2
 have r3 : w2.cell? ⟨rb, 3, none⟩ = some (.int .i64 0) := F1.lr.cell 3
 go_upto_region 3 with (go_at_call 65; refine (C1.out _ F1.b).mono ?_; rintro e w3 ⟨st3, rfl, hb⟩; unfold rvC; have F2 := F1.below hb; clear r0 r1 r2 r3 F1 hb C1; obtain ⟨r0, r1, r2, r3, rf0, rf1, rf2, rf3⟩ := F2.lr.rfour)
 have F3 := F2.putR q1 st3
 unfold put4 at F3
 obtain ⟨w4, hw4⟩ : ∃ w4, w4 = (((w3.setCell ⟨rb, 0, none⟩ (.slice A N c)).setCell ⟨rb, 1, none⟩ (.int .i64 q1.pos)).setCell ⟨rb, 2, none⟩ (.int .i64 q1.err)).setCell ⟨rb, 3, none⟩ (.int .i64 st3) := ⟨_, rfl⟩
 rw [← hw4] at F3 ⊢
 clear hw4 F2 r0 r1 r2 r3 rf0 rf1 rf2 rf3
 obtain ⟨r0, r1, r2, r3, rf0, rf1, rf2, rf3⟩ := F3.lr.rfour
 go_upto_region 4 with (go_at_call 66; refine (C2.out _ _ F3.b).mono ?_; rintro e w5 ⟨st5, rfl, hb⟩; unfold rvC; have F4 := F3.below hb; clear r0 r1 r2 r3 rf0 rf1 rf2 rf3 F3 hb C2; obtain ⟨r0, r1, r2, r3, rf0, rf1, rf2, rf3⟩ := F4.lr.rfour)
 have F5 := F4.putR q2 st5
 unfold put4 at F5
 obtain ⟨w6, hw6⟩ : ∃ w6, w6 = (((w5.setCell ⟨rb, 0, none⟩ (.slice A N c)).setCell ⟨rb, 1, none⟩ (.int .i64 q2.pos)).setCell ⟨rb, 2, none⟩ (.int .i64 q2.err)).setCell ⟨rb, 3, none⟩ (.int .i64 st5) := ⟨_, rfl⟩
 rw [← hw6] at F5 ⊢
 clear hw6 F4 r0 r1 r2 r3 rf0 rf1 rf2 rf3
 have r2 := F5.lr.rfour.2.2.1
 have y2 : w6.cell? ⟨w.heap.size, 2, none⟩ = some (.int .i64 s.frames) := F5.lw.cells.2.2.1
 have hkk : (k = 1) ↔ (kI = 1) := by have := HKI.out; omega
 rcases (by omega : q2.err ≠ 0 ∨ (q2.err = 0 ∧ p ≠ (s.frames : Int)) ∨ (q2.err = 0 ∧ p = (s.frames : Int))) with hc | hc | hc
 ·have HQ2 : Hid (Q = none) := Lib.hid (by rw [HQ.out, if_pos (.inl hc)])
  have t1 : (q2.err != 0) = true := by simpa using hc
  clear HQ hc hkk g2
  go_upto_region 5 with (fail)
  obtain ⟨k10, k11, k12, k13, k14, k15, k16, k17⟩ := F5.lw.cells
  obtain ⟨m0, m1, m2, m3⟩ := F5.c3
  have RI := F5.r
  obtain ⟨fz0, fz1, fz2, fz3, fz4, fz5, fz6, fz7⟩ := RI.l6.free8
  obtain ⟨o0, o1, o2, o3, o4, o5, o6, o7⟩ := RI.l6.cells
  obtain ⟨n0, n1, n2, n3⟩ := RI.c7
  obtain ⟨e0, e1, e2, e3⟩ := RI.f7

  have HRI := Lib.hid RI
  have HQN : Hid (Q = none) := Lib.hid HQ2.out
  clear RI F5
  go_region

  all_goals
   go_wp2
   have RF := ((HRI.out.put6 (s.pw s.frames)).put7 s g).drew
   unfold putM put4 putV at RF
   refine ResL.ret (B := B) (w := w) (a6 := w.heap.size + 2) (a7 := w.heap.size + 3) (g0 := g) (s := s) (g := g) (y6 := (s.pw s.frames)) (s7 := s) (g7 := g) (v := .tuple #[.agg (s.pw s.frames).val, .agg (imV s g), .bool false, .bool false]) (by first | (with_reducible exact RF) | exact RF) ?_ rfl ?_
   ·rintro ⟨y0, y1, y2, y3, y4, y5, y6, y7⟩ ⟨z0, z1, z2, z3⟩
    simp [results, Tryz.results31, go_sem, y0, y1, y2, y3, y4, y5, y6, y7, z0, z1, z2, z3, PW.val, imV]
   ·intro RF2
    exact RF2.noF HQN.out
 ·have HQ2 : Hid (Q = none) := Lib.hid (by rw [HQ.out, if_pos (.inr (.inl hc.2))])
  have t1 : (q2.err != 0) = false := by simp [hc.1]
  have t2 : (p != (s.frames : Int)) = true := by simpa using hc.2
  clear HQ hc hkk g2
  go_upto_region 5 with (fail)
  obtain ⟨k10, k11, k12, k13, k14, k15, k16, k17⟩ := F5.lw.cells
  obtain ⟨m0, m1, m2, m3⟩ := F5.c3
  have RI := F5.r
  obtain ⟨fz0, fz1, fz2, fz3, fz4, fz5, fz6, fz7⟩ := RI.l6.free8
  obtain ⟨o0, o1, o2, o3, o4, o5, o6, o7⟩ := RI.l6.cells
  obtain ⟨n0, n1, n2, n3⟩ := RI.c7
  obtain ⟨e0, e1, e2, e3⟩ := RI.f7

  have HRI := Lib.hid RI
  have HQN : Hid (Q = none) := Lib.hid HQ2.out
  clear RI F5
  go_region

  all_goals
   go_wp2
   have RF := ((HRI.out.put6 (s.pw s.frames)).put7 s g).drew
   unfold putM put4 putV at RF
   refine ResL.ret (B := B) (w := w) (a6 := w.heap.size + 2) (a7 := w.heap.size + 3) (g0 := g) (s := s) (g := g) (y6 := (s.pw s.frames)) (s7 := s) (g7 := g) (v := .tuple #[.agg (s.pw s.frames).val, .agg (imV s g), .bool false, .bool false]) (by first | (with_reducible exact RF) | exact RF) ?_ rfl ?_
   ·rintro ⟨y0, y1, y2, y3, y4, y5, y6, y7⟩ ⟨z0, z1, z2, z3⟩
    simp [results, Tryz.results31, go_sem, y0, y1, y2, y3, y4, y5, y6, y7, z0, z1, z2, z3, PW.val, imV]
   ·intro RF2
    exact RF2.noF HQN.out
 ·obtain ⟨he0, hpf⟩ := hc
  have t1 : (q2.err != 0) = false := by simp [he0]
  have t2 : (p != (s.frames : Int)) = false := by simp [hpf]
  by_cases hkp : k = 1 ↔ p = 0
  ·subst hpf
   have hq : Q = (rfKind k N s q2).map (fun s' => { s' with frames := s.frames + 1 }) := by rw [HQ.out, if_neg (by rintro (q | q | q); exact q he0; exact q rfl; exact q hkp)]
   have t3 : ((kI == 1) = true ∧ ((s.frames : Int) == 0) = true) ∨ ((kI == 1) = false ∧ ((s.frames : Int) == 0) = false) := by
    by_cases a1 : kI = 1
    ·exact .inl ⟨by simp [a1], by have := hkp.1 (hkk.2 a1); simp; omega⟩
    ·refine .inr ⟨by simpa using a1, ?_⟩
     have : ¬ s.frames = 0 := fun e => a1 (hkk.1 (hkp.2 (by omega)))
     simpa using this
   have HQ2 := Lib.hid hq
   have HE0 := Lib.hid he0
   clear hq HQ hkp hkk g2 he0
   have hfr1 : (s.frames : Int) + 1 ≤ 100000000001 := by omega
   have F6 := F5.putW 2 (.int .i64 ((s.frames : Int) + 1)) (x' := s.pw (s.frames + 1)) (by simp [PW.val, RS.pw])
   have y2f := Loc.free F5.lw 2
   rcases t3 with ⟨t3, t4⟩ | ⟨t3, t4⟩
   ·obtain rfl : k = 1 := by have := HKI.out; simp only [beq_iff_eq] at t3; omega
    ·obtain rfl : kI = 1 := HKI.out
     have HK1 : Hid (True) := Lib.hid trivial
     go_upto_region 7 with (fail)
     obtain ⟨w7, hw7⟩ : ∃ w7, w7 = w6.setCell ⟨w.heap.size, 2, none⟩ (.int .i64 ((s.frames : Int) + 1)) := ⟨_, rfl⟩
     rw [← hw7] at F6 ⊢
     obtain ⟨f1, hf1⟩ : ∃ f1, f1 = s.frames + 1 := ⟨_, rfl⟩
     rw [← hf1] at F6 HQ2
     have HF1 := Lib.hid hf1
     clear hw7 F5 y2 y2f r2 t1 t2 t4 hf1 hfr1
     obtain ⟨va, q3, h3⟩ : ∃ va q3, q2.number = (va, q3) := ⟨_, _, rfl⟩
     obtain ⟨vb, q4, h4⟩ : ∃ vb q4, q3.number = (vb, q4) := ⟨_, _, rfl⟩
     have x3 := number_xs q2
     have p3 := number_pos (s := q2) (by rw [HX2.out, ← HN.out]; exact HP2.out)
     rw [h3, HX2.out] at x3 p3
     simp only at x3 p3
     have x4 := number_xs q3
     have p4 := number_pos (s := q3) (by rw [x3]; exact p3)
     rw [h4, x3] at x4 p4
     simp only at x4 p4
     have ha := number_nonneg q2
     have hb' := number_nonneg q3
     rw [h3] at ha
     rw [h4] at hb'
     simp only at ha hb'
     have hl : xs.length ≤ 140737488355328 := by rw [← HN.out]; exact HLC.out.1
     have c3 := fun W (hb : Keep w.heap.size g.F w W) => rtnumber_any A c q2 st5 W (by rw [HX2.out]; exact HROW.out W hb) (by rw [HX2.out, ← HN.out]; exact HP2.out) (by rw [HX2.out]; exact hl) (by rw [HX2.out]; exact HZ.out)
     have c4 := fun st W (hb : Keep w.heap.size g.F w W) => rtnumber_any A c q3 st W (by rw [x3]; exact HROW.out W hb) (by rw [x3]; exact p3) (by rw [x3]; exact hl) (by rw [x3]; exact HZ.out)
     have ce := fun st W => rtend_any A c q4 st W (by rw [x4]; exact p4) (by rw [x4]; exact hl)
     rw [HX2.out, ← HN.out, h3] at c3
     rw [x3, ← HN.out, h4] at c4
     rw [x4, ← HN.out] at ce
     simp only at c3 c4
     obtain ⟨EE, hEE⟩ : ∃ EE, EE = q4.end_ := ⟨_, rfl⟩
     rw [← hEE] at ce
     unfold rvC at c3 c4 ce
     have C3 := Lib.hid c3
     have C4 := Lib.hid c4
     have CE := Lib.hid ce
     have hq : Q = (if EE = 0 ∧ 1 ≤ va ∧ va ≤ maxNum ∧ vb ≤ maxNum then some { s with number := va, mark := vb } else none).map (fun s' => { s' with frames := f1 }) := by
      rw [HQ2.out]
      show (rfHead s q2).map _ = _
      unfold rfHead
      rw [h3]
      simp only [h4]
      rw [hEE]
     unfold maxNum at hq
     have HQ3 := Lib.hid hq
     clear c3 c4 ce hq HQ2 HROW HZ HLC HX2 HP2 HN HKI HE0 HRB x3 x4 p3 p4 h3 h4 hEE hl
     obtain ⟨r0, r1, r2, r3, _⟩ := F6.lr.rfour
     go_upto_region 10 with (go_at_call 66; refine (C3.out _ F6.b).mono ?_; rintro e w8 ⟨st8, rfl, hb⟩; unfold rvC; have F7 := F6.below hb; clear r0 r1 r2 r3 F6 hb C3; obtain ⟨r0, r1, r2, r3, rf0, rf1, rf2, rf3⟩ := F7.lr.rfour; have i0 := F7.c3.1; have if0 := F7.li.free 0; have v1 := F7.hrb; have v2 : ¬ rb = w.heap.size + 1 := (by omega); have v3 : ¬ w.heap.size + 1 = rb := (by omega))
     have F8 := (F7.putN 0 (.int .i64 va) (s' := { s with number := va }) rfl rfl rfl).putR q3 st8
     unfold put4 at F8
     obtain ⟨w9, hw9⟩ : ∃ w9, w9 = ((((w8.setCell ⟨w.heap.size + 1, 0, none⟩ (.int .i64 va)).setCell ⟨rb, 0, none⟩ (.slice A N c)).setCell ⟨rb, 1, none⟩ (.int .i64 q3.pos)).setCell ⟨rb, 2, none⟩ (.int .i64 q3.err)).setCell ⟨rb, 3, none⟩ (.int .i64 st8) := ⟨_, rfl⟩
     rw [← hw9] at F8 ⊢
     clear hw9 F7 r0 r1 r2 r3 rf0 rf1 rf2 rf3 i0 if0
     obtain ⟨r0, r1, r2, r3, rf0, rf1, rf2, rf3⟩ := F8.lr.rfour
     go_upto_region 11 with (go_at_call 66; refine (C4.out _ _ F8.b).mono ?_; rintro e w10 ⟨st10, rfl, hb⟩; unfold rvC; have F9 := F8.below hb; clear r0 r1 r2 r3 rf0 rf1 rf2 rf3 F8 hb C4; obtain ⟨r0, r1, r2, r3, rf0, rf1, rf2, rf3⟩ := F9.lr.rfour; have i1 := F9.c3.2.1; have if1 := F9.li.free 1)
     have F10 := (F9.putN 1 (.int .i64 vb) (s' := { s with number := va, mark := vb }) rfl rfl rfl).putR q4 st10
     unfold put4 at F10
     obtain ⟨w11, hw11⟩ : ∃ w11, w11 = ((((w10.setCell ⟨w.heap.size + 1, 1, none⟩ (.int .i64 vb)).setCell ⟨rb, 0, none⟩ (.slice A N c)).setCell ⟨rb, 1, none⟩ (.int .i64 q4.pos)).setCell ⟨rb, 2, none⟩ (.int .i64 q4.err)).setCell ⟨rb, 3, none⟩ (.int .i64 st10) := ⟨_, rfl⟩
     rw [← hw11] at F10 ⊢
     clear hw11 F9 r0 r1 r2 r3 rf0 rf1 rf2 rf3 i1 if1 v1 v2 v3
     obtain ⟨x1, hx1⟩ : ∃ x1, x1 = s.pw f1 := ⟨_, rfl⟩
     obtain ⟨s1, hs1⟩ : ∃ s1, s1 = { s with number := va, mark := vb } := ⟨_, rfl⟩
     have j0 : s1.number = va := by rw [hs1]
     have j1 : s1.mark = vb := by rw [hs1]
     rw [← hx1, ← hs1] at F10
     rw [← hs1] at HQ3
     have HX := Lib.hid (And.intro hx1 hs1)
     have HJ := Lib.hid (And.intro j0 j1)
     rw [← j0, ← j1] at HQ3
     clear hx1 hs1 j0 j1 ha hb'
     by_cases hE : EE = 0
     ·have tE : (EE == 0) = true := by simp [hE]
      by_cases hA : 1 ≤ s1.number
      ·by_cases hM : s1.number ≤ 281474976710655
       ·by_cases hK : s1.mark ≤ 281474976710655
        ·have HQY : Hid (Q = some { s1 with frames := f1 }) := Lib.hid (by rw [HQ3.out, if_pos ⟨hE, hA, hM, hK⟩]; rfl)
         clear hE HQ3
         obtain ⟨r0, r1, r2, r3, _⟩ := F10.lr.rfour
         obtain ⟨k10, k11, k12, k13, k14, k15, k16, k17⟩ := F10.lw.cells
         obtain ⟨m0, m1, m2, m3⟩ := F10.c3
         have hrbe := F10.hrb
         have RI := F10.r.drew
         have hS : ∀ W W', Below W.heap.size W W' → (RfS W w.heap.size rb A N c q4 st10 x1 s1 g) → (RfS W' w.heap.size rb A N c q4 st10 x1 s1 g) := fun W W' hb h => RfS.below h hb
         have h6 := fun W (h : RfS W w.heap.size rb A N c q4 st10 x1 s1 g) => RfS.put6 h hrbe x1
         have h7 := fun W (h : RfS W w.heap.size rb A N c q4 st10 x1 s1 g) => RfS.put7 h hrbe s1 g
         have h67 := fun W h => h7 _ (h6 W h)
         have h76 := fun W h => h6 _ (h7 W h)
         unfold putV at h6 h67 h76
         unfold putM put4 at h7 h67 h76
         have HS := Lib.hid hS
         have H6 := Lib.hid h6
         have H7 := Lib.hid h7
         have H67 := Lib.hid h67
         have H76 := Lib.hid h76
         have HRD := Lib.hid RI
         clear hS h6 h7 h67 h76 RI F10
         refine wp_region_held_drew (S := fun W => RfS W w.heap.size rb A N c q4 st10 x1 s1 g) (by kernel_rfl) ⟨r0, r1, r2, r3, k10, k11, k12, k13, k14, k15, k16, k17, m0, m1, m2, m3⟩ (fun hH => ?_)
         refine take_at2 0 70 (v := ?_) rfl rfl (by kernel_rfl) (fun _ _ _ h => h) (Or.inl ⟨by rfl, ?_⟩) hH ?_
         rotate_left
         ·intro W hW
          obtain ⟨r0, r1, r2, r3, k10, k11, k12, k13, k14, k15, k16, k17, m0, m1, m2, m3⟩ := hW
          go_simp
          try with_reducible rfl
         try simp only [Act.put, List.setIfInBounds_toArray, List.set_cons_zero, List.set_cons_succ]
         refine take_at2 1 71 (v := ?_) rfl rfl (by kernel_rfl) (fun _ _ _ h => h) (Or.inl ⟨by rfl, ?_⟩) hH ?_
         rotate_left
         ·intro W hW
          obtain ⟨r0, r1, r2, r3, k10, k11, k12, k13, k14, k15, k16, k17, m0, m1, m2, m3⟩ := hW
          go_simp
          try with_reducible rfl
         try simp only [Act.put, List.setIfInBounds_toArray, List.set_cons_zero, List.set_cons_succ]
         refine take_at2 2 72 (v := ?_) rfl rfl (by kernel_rfl) (fun _ _ _ h => h) (Or.inl ⟨by rfl, ?_⟩) hH ?_
         rotate_left
         ·intro W hW
          obtain ⟨r0, r1, r2, r3, k10, k11, k12, k13, k14, k15, k16, k17, m0, m1, m2, m3⟩ := hW
          go_simp
          try with_reducible rfl
         try simp only [Act.put, List.setIfInBounds_toArray, List.set_cons_zero, List.set_cons_succ]
         refine wpAnyH_ready (rs := [3]) (by kernel_rfl) (by simp) ?_
         refine AllReadyH.cons rfl (fun K hK => ?_) AllReadyH.nil
         go_simp
         refine (CE.out _ _).mono ?_; rintro e u7 ⟨rfl, hb7⟩
         have zz := HS.out _ _ hb7 ⟨r0, r1, r2, r3, k10, k11, k12, k13, k14, k15, k16, k17, m0, m1, m2, m3⟩
         refine hK.out _ _ zz (fun hH2 => ?_)
         clear hK K
         try simp only [Act.put, List.setIfInBounds_toArray, List.set_cons_zero, List.set_cons_succ]
         refine take_at2 4 74 (v := ?_) rfl rfl (by kernel_rfl) (fun _ _ _ h => h) (Or.inl ⟨by rfl, ?_⟩) hH2 ?_
         rotate_left
         ·intro W hW
          go_simp
          try with_reducible rfl
         try simp only [Act.put, List.setIfInBounds_toArray, List.set_cons_zero, List.set_cons_succ]
         refine take_at2 5 75 (v := ?_) rfl rfl (by kernel_rfl) (fun _ _ _ h => h) (Or.inl ⟨by rfl, ?_⟩) hH2 ?_
         rotate_left
         ·intro W hW
          go_simp
          try with_reducible rfl
         try simp only [Act.put, List.setIfInBounds_toArray, List.set_cons_zero, List.set_cons_succ]
         refine take_at2 6 76 (v := ?_) rfl rfl (by kernel_rfl) (fun _ _ _ h => h) (Or.inl ⟨by rfl, ?_⟩) hH2 ?_
         rotate_left
         ·intro W hW
          go_simp
          try with_reducible rfl
         try simp only [Act.put, List.setIfInBounds_toArray, List.set_cons_zero, List.set_cons_succ]
         refine take_at2 7 77 (v := ?_) rfl rfl (by kernel_rfl) (fun _ _ _ h => h) (Or.inl ⟨by rfl, ?_⟩) hH2 ?_
         rotate_left
         ·intro W hW
          go_simp
          try with_reducible rfl
         try simp only [Act.put, List.setIfInBounds_toArray, List.set_cons_zero, List.set_cons_succ]
         refine take_at2 8 78 (v := ?_) rfl rfl (by kernel_rfl) (fun _ _ _ h => h) (Or.inl ⟨by rfl, ?_⟩) hH2 ?_
         rotate_left
         ·intro W hW
          go_simp
          try with_reducible rfl
         try simp only [Act.put, List.setIfInBounds_toArray, List.set_cons_zero, List.set_cons_succ]
         refine take_at2 9 79 (v := ?_) rfl rfl (by kernel_rfl) (fun _ _ _ h => h) (Or.inl ⟨by rfl, ?_⟩) hH2 ?_
         rotate_left
         ·intro W hW
          go_simp
          try with_reducible rfl
         try simp only [Act.put, List.setIfInBounds_toArray, List.set_cons_zero, List.set_cons_succ]
         refine take_at2 10 80 (v := ?_) rfl rfl (by kernel_rfl) (fun _ _ _ h => h) (Or.inl ⟨by rfl, ?_⟩) hH2 ?_
         rotate_left
         ·intro W hW
          go_simp
          try with_reducible rfl
         try simp only [Act.put, List.setIfInBounds_toArray, List.set_cons_zero, List.set_cons_succ]
         refine take_at2 11 81 (v := ?_) rfl rfl (by kernel_rfl) (fun _ _ _ h => h) (Or.inl ⟨by rfl, ?_⟩) hH2 ?_
         rotate_left
         ·intro W hW
          go_simp
          try with_reducible rfl
         try simp only [Act.put, List.setIfInBounds_toArray, List.set_cons_zero, List.set_cons_succ]
         refine take_at2 12 82 (v := ?_) rfl rfl (by kernel_rfl) (fun _ _ _ h => h) (Or.inl ⟨by rfl, ?_⟩) hH2 ?_
         rotate_left
         ·intro W hW
          go_simp
          try with_reducible rfl
         try simp only [Act.put, List.setIfInBounds_toArray, List.set_cons_zero, List.set_cons_succ]
         refine take_at2 13 83 (v := ?_) rfl rfl (by kernel_rfl) (fun _ _ _ h => h) (Or.inl ⟨by rfl, ?_⟩) hH2 ?_
         rotate_left
         ·intro W hW
          go_simp
          try with_reducible rfl
         try simp only [Act.put, List.setIfInBounds_toArray, List.set_cons_zero, List.set_cons_succ]
         refine take_at2 14 84 (v := ?_) rfl rfl (by kernel_rfl) (fun _ _ _ h => h) (Or.inl ⟨by rfl, ?_⟩) hH2 ?_
         rotate_left
         ·intro W hW
          go_simp
          try with_reducible rfl
         try simp only [Act.put, List.setIfInBounds_toArray, List.set_cons_zero, List.set_cons_succ]
         refine take_at2 15 85 (v := ?_) rfl rfl (by kernel_rfl) (fun _ _ _ h => h) (Or.inl ⟨by rfl, ?_⟩) hH2 ?_
         rotate_left
         ·intro W hW
          go_simp
          try with_reducible rfl
         try simp only [Act.put, List.setIfInBounds_toArray, List.set_cons_zero, List.set_cons_succ]
         refine take_at2 16 86 (v := ?_) rfl rfl (by kernel_rfl) (fun _ _ _ h => h) (Or.inl ⟨by rfl, ?_⟩) hH2 ?_
         rotate_left
         ·intro W hW
          go_simp
          try with_reducible rfl
         try simp only [Act.put, List.setIfInBounds_toArray, List.set_cons_zero, List.set_cons_succ]
         refine take_at2 17 87 (v := ?_) rfl rfl (by kernel_rfl) (fun _ _ _ h => h) (Or.inl ⟨by rfl, ?_⟩) hH2 ?_
         rotate_left
         ·intro W hW
          go_simp
          try with_reducible rfl
         try simp only [Act.put, List.setIfInBounds_toArray, List.set_cons_zero, List.set_cons_succ]
         refine take_at2 18 88 (v := ?_) rfl rfl (by kernel_rfl) (fun _ _ _ h => h) (Or.inl ⟨by rfl, ?_⟩) hH2 ?_
         rotate_left
         ·intro W hW
          go_simp
          try with_reducible rfl
         try simp only [Act.put, List.setIfInBounds_toArray, List.set_cons_zero, List.set_cons_succ]
         refine take_at2 19 89 (v := ?_) rfl rfl (by kernel_rfl) (fun _ _ _ h => h) (Or.inl ⟨by rfl, ?_⟩) hH2 ?_
         rotate_left
         ·intro W hW
          go_simp
          try with_reducible rfl
         try simp only [Act.put, List.setIfInBounds_toArray, List.set_cons_zero, List.set_cons_succ]
         have R7 := HRD.out.below hb7
         have HR7 := Lib.hid R7
         clear R7 hb7 hH r0 r1 r2 r3 k10 k11 k12 k13 k14 k15 k16 k17 m0 m1 m2 m3
         obtain ⟨fz0, fz1, fz2, fz3, fz4, fz5, fz6, fz7⟩ := HR7.out.l6.free8
         obtain ⟨o0, o1, o2, o3, o4, o5, o6, o7⟩ := HR7.out.l6.cells
         obtain ⟨n0, n1, n2, n3⟩ := HR7.out.c7
         obtain ⟨e0, e1, e2, e3⟩ := HR7.out.f7
         refine wpAnyH_ready (rs := [20]) (by kernel_rfl) (by simp) ?_
         refine AllReadyH.cons rfl (fun K hK => ?_) AllReadyH.nil
         go_simp
         refine hK.out _ _ (by with_reducible exact H6.out _ zz) (fun hH3 => ?_)
         clear hK K
         refine wpAnyH_ready (rs := [21]) (by kernel_rfl) (by simp) ?_
         refine AllReadyH.cons rfl (fun K hK => ?_) AllReadyH.nil
         go_simp
         refine hK.out _ _ (by with_reducible exact H67.out _ zz) (fun hH4 => ?_)
         clear hK K
         refine take_at2 22 8 (v := ?_) rfl rfl (by kernel_rfl) (fun _ _ _ h => h) (Or.inl ⟨by rfl, ?_⟩) hH4 ?_
         rotate_left
         ·intro W hW
          go_simp
          try with_reducible rfl
         try simp only [Act.put, List.setIfInBounds_toArray, List.set_cons_zero, List.set_cons_succ]
         refine take_at2 23 9 (v := ?_) rfl rfl (by kernel_rfl) (fun _ _ _ h => h) (Or.inl ⟨by rfl, ?_⟩) hH4 ?_
         rotate_left
         ·intro W hW
          go_simp
          try with_reducible rfl
         try simp only [Act.put, List.setIfInBounds_toArray, List.set_cons_zero, List.set_cons_succ]
         refine wpAnyH_done (by kernel_rfl) ?_ _
         clear hH2 hH3 hH4 zz

         go_wp2
         have RF := (HR7.out.put6 x1).put7 s1 g
         unfold putM put4 putV at RF
         refine ResL.ret (B := B) (w := w) (a6 := w.heap.size + 2) (a7 := w.heap.size + 3) (g0 := g) (s := s1) (g := g) (y6 := x1) (s7 := s1) (g7 := g) (v := .tuple #[.agg x1.val, .agg (imV s1 g), .bool true, .bool false]) (by first | (with_reducible exact RF) | exact RF) ?_ rfl ?_
         ·rintro ⟨y0, y1, y2, y3, y4, y5, y6, y7⟩ ⟨z0, z1, z2, z3⟩
          simp [results, Tryz.results31, go_sem, y0, y1, y2, y3, y4, y5, y6, y7, z0, z1, z2, z3, PW.val, imV]
         ·intro RF2
          exact RF2.yesH (by rw [HX.out.1, HX.out.2]; rfl) HQY.out
        ·have HQN : Hid (Q = none) := Lib.hid (by rw [HQ3.out, if_neg (fun h => hK h.2.2.2)]; rfl)
         have tK : decide (s1.mark ≤ 281474976710655) = false := by simpa using hK
         clear hE HQ3 hK
         obtain ⟨r0, r1, r2, r3, _⟩ := F10.lr.rfour
         obtain ⟨k10, k11, k12, k13, k14, k15, k16, k17⟩ := F10.lw.cells
         obtain ⟨m0, m1, m2, m3⟩ := F10.c3
         have hrbe := F10.hrb
         have RI := F10.r.drew
         have hS : ∀ W W', Below W.heap.size W W' → (RfS W w.heap.size rb A N c q4 st10 x1 s1 g) → (RfS W' w.heap.size rb A N c q4 st10 x1 s1 g) := fun W W' hb h => RfS.below h hb
         have h6 := fun W (h : RfS W w.heap.size rb A N c q4 st10 x1 s1 g) => RfS.put6 h hrbe x1
         have h7 := fun W (h : RfS W w.heap.size rb A N c q4 st10 x1 s1 g) => RfS.put7 h hrbe s1 g
         have h67 := fun W h => h7 _ (h6 W h)
         have h76 := fun W h => h6 _ (h7 W h)
         unfold putV at h6 h67 h76
         unfold putM put4 at h7 h67 h76
         have HS := Lib.hid hS
         have H6 := Lib.hid h6
         have H7 := Lib.hid h7
         have H67 := Lib.hid h67
         have H76 := Lib.hid h76
         have HRD := Lib.hid RI
         clear hS h6 h7 h67 h76 RI F10
         refine wp_region_held_drew (S := fun W => RfS W w.heap.size rb A N c q4 st10 x1 s1 g) (by kernel_rfl) ⟨r0, r1, r2, r3, k10, k11, k12, k13, k14, k15, k16, k17, m0, m1, m2, m3⟩ (fun hH => ?_)
         refine take_at2 0 70 (v := ?_) rfl rfl (by kernel_rfl) (fun _ _ _ h => h) (Or.inl ⟨by rfl, ?_⟩) hH ?_
         rotate_left
         ·intro W hW
          obtain ⟨r0, r1, r2, r3, k10, k11, k12, k13, k14, k15, k16, k17, m0, m1, m2, m3⟩ := hW
          go_simp
          try with_reducible rfl
         try simp only [Act.put, List.setIfInBounds_toArray, List.set_cons_zero, List.set_cons_succ]
         refine take_at2 1 71 (v := ?_) rfl rfl (by kernel_rfl) (fun _ _ _ h => h) (Or.inl ⟨by rfl, ?_⟩) hH ?_
         rotate_left
         ·intro W hW
          obtain ⟨r0, r1, r2, r3, k10, k11, k12, k13, k14, k15, k16, k17, m0, m1, m2, m3⟩ := hW
          go_simp
          try with_reducible rfl
         try simp only [Act.put, List.setIfInBounds_toArray, List.set_cons_zero, List.set_cons_succ]
         refine take_at2 2 72 (v := ?_) rfl rfl (by kernel_rfl) (fun _ _ _ h => h) (Or.inl ⟨by rfl, ?_⟩) hH ?_
         rotate_left
         ·intro W hW
          obtain ⟨r0, r1, r2, r3, k10, k11, k12, k13, k14, k15, k16, k17, m0, m1, m2, m3⟩ := hW
          go_simp
          try with_reducible rfl
         try simp only [Act.put, List.setIfInBounds_toArray, List.set_cons_zero, List.set_cons_succ]
         refine wpAnyH_ready (rs := [3]) (by kernel_rfl) (by simp) ?_
         refine AllReadyH.cons rfl (fun K hK => ?_) AllReadyH.nil
         go_simp
         refine (CE.out _ _).mono ?_; rintro e u7 ⟨rfl, hb7⟩
         have zz := HS.out _ _ hb7 ⟨r0, r1, r2, r3, k10, k11, k12, k13, k14, k15, k16, k17, m0, m1, m2, m3⟩
         refine hK.out _ _ zz (fun hH2 => ?_)
         clear hK K
         try simp only [Act.put, List.setIfInBounds_toArray, List.set_cons_zero, List.set_cons_succ]
         refine take_at2 4 74 (v := ?_) rfl rfl (by kernel_rfl) (fun _ _ _ h => h) (Or.inl ⟨by rfl, ?_⟩) hH2 ?_
         rotate_left
         ·intro W hW
          go_simp
          try with_reducible rfl
         try simp only [Act.put, List.setIfInBounds_toArray, List.set_cons_zero, List.set_cons_succ]
         refine take_at2 5 75 (v := ?_) rfl rfl (by kernel_rfl) (fun _ _ _ h => h) (Or.inl ⟨by rfl, ?_⟩) hH2 ?_
         rotate_left
         ·intro W hW
          go_simp
          try with_reducible rfl
         try simp only [Act.put, List.setIfInBounds_toArray, List.set_cons_zero, List.set_cons_succ]
         refine take_at2 6 76 (v := ?_) rfl rfl (by kernel_rfl) (fun _ _ _ h => h) (Or.inl ⟨by rfl, ?_⟩) hH2 ?_
         rotate_left
         ·intro W hW
          go_simp
          try with_reducible rfl
         try simp only [Act.put, List.setIfInBounds_toArray, List.set_cons_zero, List.set_cons_succ]
         refine take_at2 7 77 (v := ?_) rfl rfl (by kernel_rfl) (fun _ _ _ h => h) (Or.inl ⟨by rfl, ?_⟩) hH2 ?_
         rotate_left
         ·intro W hW
          go_simp
          try with_reducible rfl
         try simp only [Act.put, List.setIfInBounds_toArray, List.set_cons_zero, List.set_cons_succ]
         refine take_at2 8 78 (v := ?_) rfl rfl (by kernel_rfl) (fun _ _ _ h => h) (Or.inl ⟨by rfl, ?_⟩) hH2 ?_
         rotate_left
         ·intro W hW
          go_simp
          try with_reducible rfl
         try simp only [Act.put, List.setIfInBounds_toArray, List.set_cons_zero, List.set_cons_succ]
         refine take_at2 9 79 (v := ?_) rfl rfl (by kernel_rfl) (fun _ _ _ h => h) (Or.inl ⟨by rfl, ?_⟩) hH2 ?_
         rotate_left
         ·intro W hW
          go_simp
          try with_reducible rfl
         try simp only [Act.put, List.setIfInBounds_toArray, List.set_cons_zero, List.set_cons_succ]
         refine take_at2 10 80 (v := ?_) rfl rfl (by kernel_rfl) (fun _ _ _ h => h) (Or.inl ⟨by rfl, ?_⟩) hH2 ?_
         rotate_left
         ·intro W hW
          go_simp
          try with_reducible rfl
         try simp only [Act.put, List.setIfInBounds_toArray, List.set_cons_zero, List.set_cons_succ]
         refine take_at2 11 81 (v := ?_) rfl rfl (by kernel_rfl) (fun _ _ _ h => h) (Or.inl ⟨by rfl, ?_⟩) hH2 ?_
         rotate_left
         ·intro W hW
          go_simp
          try with_reducible rfl
         try simp only [Act.put, List.setIfInBounds_toArray, List.set_cons_zero, List.set_cons_succ]
         refine take_at2 12 82 (v := ?_) rfl rfl (by kernel_rfl) (fun _ _ _ h => h) (Or.inl ⟨by rfl, ?_⟩) hH2 ?_
         rotate_left
         ·intro W hW
          go_simp
          try with_reducible rfl
         try simp only [Act.put, List.setIfInBounds_toArray, List.set_cons_zero, List.set_cons_succ]
         refine take_at2 13 83 (v := ?_) rfl rfl (by kernel_rfl) (fun _ _ _ h => h) (Or.inl ⟨by rfl, ?_⟩) hH2 ?_
         rotate_left
         ·intro W hW
          go_simp
          try with_reducible rfl
         try simp only [Act.put, List.setIfInBounds_toArray, List.set_cons_zero, List.set_cons_succ]
         refine take_at2 14 84 (v := ?_) rfl rfl (by kernel_rfl) (fun _ _ _ h => h) (Or.inl ⟨by rfl, ?_⟩) hH2 ?_
         rotate_left
         ·intro W hW
          go_simp
          try with_reducible rfl
         try simp only [Act.put, List.setIfInBounds_toArray, List.set_cons_zero, List.set_cons_succ]
         refine take_at2 15 85 (v := ?_) rfl rfl (by kernel_rfl) (fun _ _ _ h => h) (Or.inl ⟨by rfl, ?_⟩) hH2 ?_
         rotate_left
         ·intro W hW
          go_simp
          try with_reducible rfl
         try simp only [Act.put, List.setIfInBounds_toArray, List.set_cons_zero, List.set_cons_succ]
         refine take_at2 16 86 (v := ?_) rfl rfl (by kernel_rfl) (fun _ _ _ h => h) (Or.inl ⟨by rfl, ?_⟩) hH2 ?_
         rotate_left
         ·intro W hW
          go_simp
          try with_reducible rfl
         try simp only [Act.put, List.setIfInBounds_toArray, List.set_cons_zero, List.set_cons_succ]
         refine take_at2 17 87 (v := ?_) rfl rfl (by kernel_rfl) (fun _ _ _ h => h) (Or.inl ⟨by rfl, ?_⟩) hH2 ?_
         rotate_left
         ·intro W hW
          go_simp
          try with_reducible rfl
         try simp only [Act.put, List.setIfInBounds_toArray, List.set_cons_zero, List.set_cons_succ]
         refine take_at2 18 88 (v := ?_) rfl rfl (by kernel_rfl) (fun _ _ _ h => h) (Or.inl ⟨by rfl, ?_⟩) hH2 ?_
         rotate_left
         ·intro W hW
          go_simp
          try with_reducible rfl
         try simp only [Act.put, List.setIfInBounds_toArray, List.set_cons_zero, List.set_cons_succ]
         refine take_at2 19 89 (v := ?_) rfl rfl (by kernel_rfl) (fun _ _ _ h => h) (Or.inl ⟨by rfl, ?_⟩) hH2 ?_
         rotate_left
         ·intro W hW
          go_simp
          try with_reducible rfl
         try simp only [Act.put, List.setIfInBounds_toArray, List.set_cons_zero, List.set_cons_succ]
         have R7 := HRD.out.below hb7
         have HR7 := Lib.hid R7
         clear R7 hb7 hH r0 r1 r2 r3 k10 k11 k12 k13 k14 k15 k16 k17 m0 m1 m2 m3
         obtain ⟨fz0, fz1, fz2, fz3, fz4, fz5, fz6, fz7⟩ := HR7.out.l6.free8
         obtain ⟨o0, o1, o2, o3, o4, o5, o6, o7⟩ := HR7.out.l6.cells
         obtain ⟨n0, n1, n2, n3⟩ := HR7.out.c7
         obtain ⟨e0, e1, e2, e3⟩ := HR7.out.f7
         refine wpAnyH_ready (rs := [20]) (by kernel_rfl) (by simp) ?_
         refine AllReadyH.cons rfl (fun K hK => ?_) AllReadyH.nil
         go_simp
         refine hK.out _ _ (by with_reducible exact H6.out _ zz) (fun hH3 => ?_)
         clear hK K
         refine wpAnyH_ready (rs := [21]) (by kernel_rfl) (by simp) ?_
         refine AllReadyH.cons rfl (fun K hK => ?_) AllReadyH.nil
         go_simp
         refine hK.out _ _ (by with_reducible exact H67.out _ zz) (fun hH4 => ?_)
         clear hK K
         refine take_at2 22 8 (v := ?_) rfl rfl (by kernel_rfl) (fun _ _ _ h => h) (Or.inl ⟨by rfl, ?_⟩) hH4 ?_
         rotate_left
         ·intro W hW
          go_simp
          try with_reducible rfl
         try simp only [Act.put, List.setIfInBounds_toArray, List.set_cons_zero, List.set_cons_succ]
         refine take_at2 23 9 (v := ?_) rfl rfl (by kernel_rfl) (fun _ _ _ h => h) (Or.inl ⟨by rfl, ?_⟩) hH4 ?_
         rotate_left
         ·intro W hW
          go_simp
          try with_reducible rfl
         try simp only [Act.put, List.setIfInBounds_toArray, List.set_cons_zero, List.set_cons_succ]
         refine wpAnyH_done (by kernel_rfl) ?_ _
         clear hH2 hH3 hH4 zz

         go_wp2
         have RF := (HR7.out.put6 x1).put7 s1 g
         unfold putM put4 putV at RF
         refine ResL.ret (B := B) (w := w) (a6 := w.heap.size + 2) (a7 := w.heap.size + 3) (g0 := g) (s := s1) (g := g) (y6 := x1) (s7 := s1) (g7 := g) (v := .tuple #[.agg x1.val, .agg (imV s1 g), .bool false, .bool false]) (by first | (with_reducible exact RF) | exact RF) ?_ rfl ?_
         ·rintro ⟨y0, y1, y2, y3, y4, y5, y6, y7⟩ ⟨z0, z1, z2, z3⟩
          simp [results, Tryz.results31, go_sem, y0, y1, y2, y3, y4, y5, y6, y7, z0, z1, z2, z3, PW.val, imV]
         ·intro RF2
          exact RF2.noF HQN.out
       ·have HQN : Hid (Q = none) := Lib.hid (by rw [HQ3.out, if_neg (fun h => hM h.2.2.1)]; rfl)
        have tM : decide (s1.number ≤ 281474976710655) = false := by simpa using hM
        clear hE HQ3 hM
        obtain ⟨r0, r1, r2, r3, _⟩ := F10.lr.rfour
        obtain ⟨k10, k11, k12, k13, k14, k15, k16, k17⟩ := F10.lw.cells
        obtain ⟨m0, m1, m2, m3⟩ := F10.c3
        have hrbe := F10.hrb
        have RI := F10.r.drew
        have hS : ∀ W W', Below W.heap.size W W' → (RfS W w.heap.size rb A N c q4 st10 x1 s1 g) → (RfS W' w.heap.size rb A N c q4 st10 x1 s1 g) := fun W W' hb h => RfS.below h hb
        have h6 := fun W (h : RfS W w.heap.size rb A N c q4 st10 x1 s1 g) => RfS.put6 h hrbe x1
        have h7 := fun W (h : RfS W w.heap.size rb A N c q4 st10 x1 s1 g) => RfS.put7 h hrbe s1 g
        have h67 := fun W h => h7 _ (h6 W h)
        have h76 := fun W h => h6 _ (h7 W h)
        unfold putV at h6 h67 h76
        unfold putM put4 at h7 h67 h76
        have HS := Lib.hid hS
        have H6 := Lib.hid h6
        have H7 := Lib.hid h7
        have H67 := Lib.hid h67
        have H76 := Lib.hid h76
        have HRD := Lib.hid RI
        clear hS h6 h7 h67 h76 RI F10
        refine wp_region_held_drew (S := fun W => RfS W w.heap.size rb A N c q4 st10 x1 s1 g) (by kernel_rfl) ⟨r0, r1, r2, r3, k10, k11, k12, k13, k14, k15, k16, k17, m0, m1, m2, m3⟩ (fun hH => ?_)
        refine take_at2 0 70 (v := ?_) rfl rfl (by kernel_rfl) (fun _ _ _ h => h) (Or.inl ⟨by rfl, ?_⟩) hH ?_
        rotate_left
        ·intro W hW
         obtain ⟨r0, r1, r2, r3, k10, k11, k12, k13, k14, k15, k16, k17, m0, m1, m2, m3⟩ := hW
         go_simp
         try with_reducible rfl
        try simp only [Act.put, List.setIfInBounds_toArray, List.set_cons_zero, List.set_cons_succ]
        refine take_at2 1 71 (v := ?_) rfl rfl (by kernel_rfl) (fun _ _ _ h => h) (Or.inl ⟨by rfl, ?_⟩) hH ?_
        rotate_left
        ·intro W hW
         obtain ⟨r0, r1, r2, r3, k10, k11, k12, k13, k14, k15, k16, k17, m0, m1, m2, m3⟩ := hW
         go_simp
         try with_reducible rfl
        try simp only [Act.put, List.setIfInBounds_toArray, List.set_cons_zero, List.set_cons_succ]
        refine take_at2 2 72 (v := ?_) rfl rfl (by kernel_rfl) (fun _ _ _ h => h) (Or.inl ⟨by rfl, ?_⟩) hH ?_
        rotate_left
        ·intro W hW
         obtain ⟨r0, r1, r2, r3, k10, k11, k12, k13, k14, k15, k16, k17, m0, m1, m2, m3⟩ := hW
         go_simp
         try with_reducible rfl
        try simp only [Act.put, List.setIfInBounds_toArray, List.set_cons_zero, List.set_cons_succ]
        refine wpAnyH_ready (rs := [3]) (by kernel_rfl) (by simp) ?_
        refine AllReadyH.cons rfl (fun K hK => ?_) AllReadyH.nil
        go_simp
        refine (CE.out _ _).mono ?_; rintro e u7 ⟨rfl, hb7⟩
        have zz := HS.out _ _ hb7 ⟨r0, r1, r2, r3, k10, k11, k12, k13, k14, k15, k16, k17, m0, m1, m2, m3⟩
        refine hK.out _ _ zz (fun hH2 => ?_)
        clear hK K
        try simp only [Act.put, List.setIfInBounds_toArray, List.set_cons_zero, List.set_cons_succ]
        refine take_at2 4 74 (v := ?_) rfl rfl (by kernel_rfl) (fun _ _ _ h => h) (Or.inl ⟨by rfl, ?_⟩) hH2 ?_
        rotate_left
        ·intro W hW
         go_simp
         try with_reducible rfl
        try simp only [Act.put, List.setIfInBounds_toArray, List.set_cons_zero, List.set_cons_succ]
        refine take_at2 5 75 (v := ?_) rfl rfl (by kernel_rfl) (fun _ _ _ h => h) (Or.inl ⟨by rfl, ?_⟩) hH2 ?_
        rotate_left
        ·intro W hW
         go_simp
         try with_reducible rfl
        try simp only [Act.put, List.setIfInBounds_toArray, List.set_cons_zero, List.set_cons_succ]
        refine take_at2 6 76 (v := ?_) rfl rfl (by kernel_rfl) (fun _ _ _ h => h) (Or.inl ⟨by rfl, ?_⟩) hH2 ?_
        rotate_left
        ·intro W hW
         go_simp
         try with_reducible rfl
        try simp only [Act.put, List.setIfInBounds_toArray, List.set_cons_zero, List.set_cons_succ]
        refine take_at2 7 77 (v := ?_) rfl rfl (by kernel_rfl) (fun _ _ _ h => h) (Or.inl ⟨by rfl, ?_⟩) hH2 ?_
        rotate_left
        ·intro W hW
         go_simp
         try with_reducible rfl
        try simp only [Act.put, List.setIfInBounds_toArray, List.set_cons_zero, List.set_cons_succ]
        refine take_at2 8 78 (v := ?_) rfl rfl (by kernel_rfl) (fun _ _ _ h => h) (Or.inl ⟨by rfl, ?_⟩) hH2 ?_
        rotate_left
        ·intro W hW
         go_simp
         try with_reducible rfl
        try simp only [Act.put, List.setIfInBounds_toArray, List.set_cons_zero, List.set_cons_succ]
        refine take_at2 9 79 (v := ?_) rfl rfl (by kernel_rfl) (fun _ _ _ h => h) (Or.inl ⟨by rfl, ?_⟩) hH2 ?_
        rotate_left
        ·intro W hW
         go_simp
         try with_reducible rfl
        try simp only [Act.put, List.setIfInBounds_toArray, List.set_cons_zero, List.set_cons_succ]
        refine take_at2 10 80 (v := ?_) rfl rfl (by kernel_rfl) (fun _ _ _ h => h) (Or.inl ⟨by rfl, ?_⟩) hH2 ?_
        rotate_left
        ·intro W hW
         go_simp
         try with_reducible rfl
        try simp only [Act.put, List.setIfInBounds_toArray, List.set_cons_zero, List.set_cons_succ]
        refine take_at2 11 81 (v := ?_) rfl rfl (by kernel_rfl) (fun _ _ _ h => h) (Or.inl ⟨by rfl, ?_⟩) hH2 ?_
        rotate_left
        ·intro W hW
         go_simp
         try with_reducible rfl
        try simp only [Act.put, List.setIfInBounds_toArray, List.set_cons_zero, List.set_cons_succ]
        refine take_at2 12 82 (v := ?_) rfl rfl (by kernel_rfl) (fun _ _ _ h => h) (Or.inl ⟨by rfl, ?_⟩) hH2 ?_
        rotate_left
        ·intro W hW
         go_simp
         try with_reducible rfl
        try simp only [Act.put, List.setIfInBounds_toArray, List.set_cons_zero, List.set_cons_succ]
        refine take_at2 13 83 (v := ?_) rfl rfl (by kernel_rfl) (fun _ _ _ h => h) (Or.inl ⟨by rfl, ?_⟩) hH2 ?_
        rotate_left
        ·intro W hW
         go_simp
         try with_reducible rfl
        try simp only [Act.put, List.setIfInBounds_toArray, List.set_cons_zero, List.set_cons_succ]
        refine take_at2 14 84 (v := ?_) rfl rfl (by kernel_rfl) (fun _ _ _ h => h) (Or.inl ⟨by rfl, ?_⟩) hH2 ?_
        rotate_left
        ·intro W hW
         go_simp
         try with_reducible rfl
        try simp only [Act.put, List.setIfInBounds_toArray, List.set_cons_zero, List.set_cons_succ]
        refine take_at2 15 85 (v := ?_) rfl rfl (by kernel_rfl) (fun _ _ _ h => h) (Or.inl ⟨by rfl, ?_⟩) hH2 ?_
        rotate_left
        ·intro W hW
         go_simp
         try with_reducible rfl
        try simp only [Act.put, List.setIfInBounds_toArray, List.set_cons_zero, List.set_cons_succ]
        refine take_at2 16 86 rfl rfl (by kernel_rfl) (fun _ _ _ h => h) (Or.inr ⟨by rfl, rfl⟩) hH2 ?_
        try simp only [Act.put, List.setIfInBounds_toArray, List.set_cons_zero, List.set_cons_succ]
        refine take_at2 17 87 rfl rfl (by kernel_rfl) (fun _ _ _ h => h) (Or.inr ⟨by rfl, rfl⟩) hH2 ?_
        try simp only [Act.put, List.setIfInBounds_toArray, List.set_cons_zero, List.set_cons_succ]
        refine take_at2 18 88 rfl rfl (by kernel_rfl) (fun _ _ _ h => h) (Or.inr ⟨by rfl, rfl⟩) hH2 ?_
        try simp only [Act.put, List.setIfInBounds_toArray, List.set_cons_zero, List.set_cons_succ]
        refine take_at2 19 89 (v := ?_) rfl rfl (by kernel_rfl) (fun _ _ _ h => h) (Or.inl ⟨by rfl, ?_⟩) hH2 ?_
        rotate_left
        ·intro W hW
         go_simp
         try with_reducible rfl
        try simp only [Act.put, List.setIfInBounds_toArray, List.set_cons_zero, List.set_cons_succ]
        have R7 := HRD.out.below hb7
        have HR7 := Lib.hid R7
        clear R7 hb7 hH r0 r1 r2 r3 k10 k11 k12 k13 k14 k15 k16 k17 m0 m1 m2 m3
        obtain ⟨fz0, fz1, fz2, fz3, fz4, fz5, fz6, fz7⟩ := HR7.out.l6.free8
        obtain ⟨o0, o1, o2, o3, o4, o5, o6, o7⟩ := HR7.out.l6.cells
        obtain ⟨n0, n1, n2, n3⟩ := HR7.out.c7
        obtain ⟨e0, e1, e2, e3⟩ := HR7.out.f7
        refine wpAnyH_ready (rs := [20]) (by kernel_rfl) (by simp) ?_
        refine AllReadyH.cons rfl (fun K hK => ?_) AllReadyH.nil
        go_simp
        refine hK.out _ _ (by with_reducible exact H6.out _ zz) (fun hH3 => ?_)
        clear hK K
        refine wpAnyH_ready (rs := [21]) (by kernel_rfl) (by simp) ?_
        refine AllReadyH.cons rfl (fun K hK => ?_) AllReadyH.nil
        go_simp
        refine hK.out _ _ (by with_reducible exact H67.out _ zz) (fun hH4 => ?_)
        clear hK K
        refine take_at2 22 8 (v := ?_) rfl rfl (by kernel_rfl) (fun _ _ _ h => h) (Or.inl ⟨by rfl, ?_⟩) hH4 ?_
        rotate_left
        ·intro W hW
         go_simp
         try with_reducible rfl
        try simp only [Act.put, List.setIfInBounds_toArray, List.set_cons_zero, List.set_cons_succ]
        refine take_at2 23 9 (v := ?_) rfl rfl (by kernel_rfl) (fun _ _ _ h => h) (Or.inl ⟨by rfl, ?_⟩) hH4 ?_
        rotate_left
        ·intro W hW
         go_simp
         try with_reducible rfl
        try simp only [Act.put, List.setIfInBounds_toArray, List.set_cons_zero, List.set_cons_succ]
        refine wpAnyH_done (by kernel_rfl) ?_ _
        clear hH2 hH3 hH4 zz

        go_wp2
        have RF := (HR7.out.put6 x1).put7 s1 g
        unfold putM put4 putV at RF
        refine ResL.ret (B := B) (w := w) (a6 := w.heap.size + 2) (a7 := w.heap.size + 3) (g0 := g) (s := s1) (g := g) (y6 := x1) (s7 := s1) (g7 := g) (v := .tuple #[.agg x1.val, .agg (imV s1 g), .bool false, .bool false]) (by first | (with_reducible exact RF) | exact RF) ?_ rfl ?_
        ·rintro ⟨y0, y1, y2, y3, y4, y5, y6, y7⟩ ⟨z0, z1, z2, z3⟩
         simp [results, Tryz.results31, go_sem, y0, y1, y2, y3, y4, y5, y6, y7, z0, z1, z2, z3, PW.val, imV]
        ·intro RF2
         exact RF2.noF HQN.out
      ·have HQN : Hid (Q = none) := Lib.hid (by rw [HQ3.out, if_neg (fun h => hA h.2.1)]; rfl)
       have tA : decide (1 ≤ s1.number) = false := by simpa using hA
       clear hE HQ3 hA
       obtain ⟨r0, r1, r2, r3, _⟩ := F10.lr.rfour
       obtain ⟨k10, k11, k12, k13, k14, k15, k16, k17⟩ := F10.lw.cells
       obtain ⟨m0, m1, m2, m3⟩ := F10.c3
       have hrbe := F10.hrb
       have RI := F10.r.drew
       have hS : ∀ W W', Below W.heap.size W W' → (RfS W w.heap.size rb A N c q4 st10 x1 s1 g) → (RfS W' w.heap.size rb A N c q4 st10 x1 s1 g) := fun W W' hb h => RfS.below h hb
       have h6 := fun W (h : RfS W w.heap.size rb A N c q4 st10 x1 s1 g) => RfS.put6 h hrbe x1
       have h7 := fun W (h : RfS W w.heap.size rb A N c q4 st10 x1 s1 g) => RfS.put7 h hrbe s1 g
       have h67 := fun W h => h7 _ (h6 W h)
       have h76 := fun W h => h6 _ (h7 W h)
       unfold putV at h6 h67 h76
       unfold putM put4 at h7 h67 h76
       have HS := Lib.hid hS
       have H6 := Lib.hid h6
       have H7 := Lib.hid h7
       have H67 := Lib.hid h67
       have H76 := Lib.hid h76
       have HRD := Lib.hid RI
       clear hS h6 h7 h67 h76 RI F10
       refine wp_region_held_drew (S := fun W => RfS W w.heap.size rb A N c q4 st10 x1 s1 g) (by kernel_rfl) ⟨r0, r1, r2, r3, k10, k11, k12, k13, k14, k15, k16, k17, m0, m1, m2, m3⟩ (fun hH => ?_)
       refine take_at2 0 70 (v := ?_) rfl rfl (by kernel_rfl) (fun _ _ _ h => h) (Or.inl ⟨by rfl, ?_⟩) hH ?_
       rotate_left
       ·intro W hW
        obtain ⟨r0, r1, r2, r3, k10, k11, k12, k13, k14, k15, k16, k17, m0, m1, m2, m3⟩ := hW
        go_simp
        try with_reducible rfl
       try simp only [Act.put, List.setIfInBounds_toArray, List.set_cons_zero, List.set_cons_succ]
       refine take_at2 1 71 (v := ?_) rfl rfl (by kernel_rfl) (fun _ _ _ h => h) (Or.inl ⟨by rfl, ?_⟩) hH ?_
       rotate_left
       ·intro W hW
        obtain ⟨r0, r1, r2, r3, k10, k11, k12, k13, k14, k15, k16, k17, m0, m1, m2, m3⟩ := hW
        go_simp
        try with_reducible rfl
       try simp only [Act.put, List.setIfInBounds_toArray, List.set_cons_zero, List.set_cons_succ]
       refine take_at2 2 72 (v := ?_) rfl rfl (by kernel_rfl) (fun _ _ _ h => h) (Or.inl ⟨by rfl, ?_⟩) hH ?_
       rotate_left
       ·intro W hW
        obtain ⟨r0, r1, r2, r3, k10, k11, k12, k13, k14, k15, k16, k17, m0, m1, m2, m3⟩ := hW
        go_simp
        try with_reducible rfl
       try simp only [Act.put, List.setIfInBounds_toArray, List.set_cons_zero, List.set_cons_succ]
       refine wpAnyH_ready (rs := [3]) (by kernel_rfl) (by simp) ?_
       refine AllReadyH.cons rfl (fun K hK => ?_) AllReadyH.nil
       go_simp
       refine (CE.out _ _).mono ?_; rintro e u7 ⟨rfl, hb7⟩
       have zz := HS.out _ _ hb7 ⟨r0, r1, r2, r3, k10, k11, k12, k13, k14, k15, k16, k17, m0, m1, m2, m3⟩
       refine hK.out _ _ zz (fun hH2 => ?_)
       clear hK K
       try simp only [Act.put, List.setIfInBounds_toArray, List.set_cons_zero, List.set_cons_succ]
       refine take_at2 4 74 (v := ?_) rfl rfl (by kernel_rfl) (fun _ _ _ h => h) (Or.inl ⟨by rfl, ?_⟩) hH2 ?_
       rotate_left
       ·intro W hW
        go_simp
        try with_reducible rfl
       try simp only [Act.put, List.setIfInBounds_toArray, List.set_cons_zero, List.set_cons_succ]
       refine take_at2 5 75 (v := ?_) rfl rfl (by kernel_rfl) (fun _ _ _ h => h) (Or.inl ⟨by rfl, ?_⟩) hH2 ?_
       rotate_left
       ·intro W hW
        go_simp
        try with_reducible rfl
       try simp only [Act.put, List.setIfInBounds_toArray, List.set_cons_zero, List.set_cons_succ]
       refine take_at2 6 76 (v := ?_) rfl rfl (by kernel_rfl) (fun _ _ _ h => h) (Or.inl ⟨by rfl, ?_⟩) hH2 ?_
       rotate_left
       ·intro W hW
        go_simp
        try with_reducible rfl
       try simp only [Act.put, List.setIfInBounds_toArray, List.set_cons_zero, List.set_cons_succ]
       refine take_at2 7 77 (v := ?_) rfl rfl (by kernel_rfl) (fun _ _ _ h => h) (Or.inl ⟨by rfl, ?_⟩) hH2 ?_
       rotate_left
       ·intro W hW
        go_simp
        try with_reducible rfl
       try simp only [Act.put, List.setIfInBounds_toArray, List.set_cons_zero, List.set_cons_succ]
       refine take_at2 8 78 (v := ?_) rfl rfl (by kernel_rfl) (fun _ _ _ h => h) (Or.inl ⟨by rfl, ?_⟩) hH2 ?_
       rotate_left
       ·intro W hW
        go_simp
        try with_reducible rfl
       try simp only [Act.put, List.setIfInBounds_toArray, List.set_cons_zero, List.set_cons_succ]
       refine take_at2 9 79 (v := ?_) rfl rfl (by kernel_rfl) (fun _ _ _ h => h) (Or.inl ⟨by rfl, ?_⟩) hH2 ?_
       rotate_left
       ·intro W hW
        go_simp
        try with_reducible rfl
       try simp only [Act.put, List.setIfInBounds_toArray, List.set_cons_zero, List.set_cons_succ]
       refine take_at2 10 80 (v := ?_) rfl rfl (by kernel_rfl) (fun _ _ _ h => h) (Or.inl ⟨by rfl, ?_⟩) hH2 ?_
       rotate_left
       ·intro W hW
        go_simp
        try with_reducible rfl
       try simp only [Act.put, List.setIfInBounds_toArray, List.set_cons_zero, List.set_cons_succ]
       refine take_at2 11 81 rfl rfl (by kernel_rfl) (fun _ _ _ h => h) (Or.inr ⟨by rfl, rfl⟩) hH2 ?_
       try simp only [Act.put, List.setIfInBounds_toArray, List.set_cons_zero, List.set_cons_succ]
       refine take_at2 12 82 rfl rfl (by kernel_rfl) (fun _ _ _ h => h) (Or.inr ⟨by rfl, rfl⟩) hH2 ?_
       try simp only [Act.put, List.setIfInBounds_toArray, List.set_cons_zero, List.set_cons_succ]
       refine take_at2 13 83 rfl rfl (by kernel_rfl) (fun _ _ _ h => h) (Or.inr ⟨by rfl, rfl⟩) hH2 ?_
       try simp only [Act.put, List.setIfInBounds_toArray, List.set_cons_zero, List.set_cons_succ]
       refine take_at2 14 84 (v := ?_) rfl rfl (by kernel_rfl) (fun _ _ _ h => h) (Or.inl ⟨by rfl, ?_⟩) hH2 ?_
       rotate_left
       ·intro W hW
        go_simp
        try with_reducible rfl
       try simp only [Act.put, List.setIfInBounds_toArray, List.set_cons_zero, List.set_cons_succ]
       refine take_at2 15 85 (v := ?_) rfl rfl (by kernel_rfl) (fun _ _ _ h => h) (Or.inl ⟨by rfl, ?_⟩) hH2 ?_
       rotate_left
       ·intro W hW
        go_simp
        try with_reducible rfl
       try simp only [Act.put, List.setIfInBounds_toArray, List.set_cons_zero, List.set_cons_succ]
       refine take_at2 16 86 rfl rfl (by kernel_rfl) (fun _ _ _ h => h) (Or.inr ⟨by rfl, rfl⟩) hH2 ?_
       try simp only [Act.put, List.setIfInBounds_toArray, List.set_cons_zero, List.set_cons_succ]
       refine take_at2 17 87 rfl rfl (by kernel_rfl) (fun _ _ _ h => h) (Or.inr ⟨by rfl, rfl⟩) hH2 ?_
       try simp only [Act.put, List.setIfInBounds_toArray, List.set_cons_zero, List.set_cons_succ]
       refine take_at2 18 88 rfl rfl (by kernel_rfl) (fun _ _ _ h => h) (Or.inr ⟨by rfl, rfl⟩) hH2 ?_
       try simp only [Act.put, List.setIfInBounds_toArray, List.set_cons_zero, List.set_cons_succ]
       refine take_at2 19 89 (v := ?_) rfl rfl (by kernel_rfl) (fun _ _ _ h => h) (Or.inl ⟨by rfl, ?_⟩) hH2 ?_
       rotate_left
       ·intro W hW
        go_simp
        try with_reducible rfl
       try simp only [Act.put, List.setIfInBounds_toArray, List.set_cons_zero, List.set_cons_succ]
       have R7 := HRD.out.below hb7
       have HR7 := Lib.hid R7
       clear R7 hb7 hH r0 r1 r2 r3 k10 k11 k12 k13 k14 k15 k16 k17 m0 m1 m2 m3
       obtain ⟨fz0, fz1, fz2, fz3, fz4, fz5, fz6, fz7⟩ := HR7.out.l6.free8
       obtain ⟨o0, o1, o2, o3, o4, o5, o6, o7⟩ := HR7.out.l6.cells
       obtain ⟨n0, n1, n2, n3⟩ := HR7.out.c7
       obtain ⟨e0, e1, e2, e3⟩ := HR7.out.f7
       refine wpAnyH_ready (rs := [20]) (by kernel_rfl) (by simp) ?_
       refine AllReadyH.cons rfl (fun K hK => ?_) AllReadyH.nil
       go_simp
       refine hK.out _ _ (by with_reducible exact H6.out _ zz) (fun hH3 => ?_)
       clear hK K
       refine wpAnyH_ready (rs := [21]) (by kernel_rfl) (by simp) ?_
       refine AllReadyH.cons rfl (fun K hK => ?_) AllReadyH.nil
       go_simp
       refine hK.out _ _ (by with_reducible exact H67.out _ zz) (fun hH4 => ?_)
       clear hK K
       refine take_at2 22 8 (v := ?_) rfl rfl (by kernel_rfl) (fun _ _ _ h => h) (Or.inl ⟨by rfl, ?_⟩) hH4 ?_
       rotate_left
       ·intro W hW
        go_simp
        try with_reducible rfl
       try simp only [Act.put, List.setIfInBounds_toArray, List.set_cons_zero, List.set_cons_succ]
       refine take_at2 23 9 (v := ?_) rfl rfl (by kernel_rfl) (fun _ _ _ h => h) (Or.inl ⟨by rfl, ?_⟩) hH4 ?_
       rotate_left
       ·intro W hW
        go_simp
        try with_reducible rfl
       try simp only [Act.put, List.setIfInBounds_toArray, List.set_cons_zero, List.set_cons_succ]
       refine wpAnyH_done (by kernel_rfl) ?_ _
       clear hH2 hH3 hH4 zz

       go_wp2
       have RF := (HR7.out.put6 x1).put7 s1 g
       unfold putM put4 putV at RF
       refine ResL.ret (B := B) (w := w) (a6 := w.heap.size + 2) (a7 := w.heap.size + 3) (g0 := g) (s := s1) (g := g) (y6 := x1) (s7 := s1) (g7 := g) (v := .tuple #[.agg x1.val, .agg (imV s1 g), .bool false, .bool false]) (by first | (with_reducible exact RF) | exact RF) ?_ rfl ?_
       ·rintro ⟨y0, y1, y2, y3, y4, y5, y6, y7⟩ ⟨z0, z1, z2, z3⟩
        simp [results, Tryz.results31, go_sem, y0, y1, y2, y3, y4, y5, y6, y7, z0, z1, z2, z3, PW.val, imV]
       ·intro RF2
        exact RF2.noF HQN.out
     ·have HQN : Hid (Q = none) := Lib.hid (by rw [HQ3.out, if_neg (fun h => hE h.1)]; rfl)
      have tE : (EE == 0) = false := by simpa using hE
      clear hE HQ3
      obtain ⟨r0, r1, r2, r3, _⟩ := F10.lr.rfour
      obtain ⟨k10, k11, k12, k13, k14, k15, k16, k17⟩ := F10.lw.cells
      obtain ⟨m0, m1, m2, m3⟩ := F10.c3
      have hrbe := F10.hrb
      have RI := F10.r.drew
      have hS : ∀ W W', Below W.heap.size W W' → (RfS W w.heap.size rb A N c q4 st10 x1 s1 g) → (RfS W' w.heap.size rb A N c q4 st10 x1 s1 g) := fun W W' hb h => RfS.below h hb
      have h6 := fun W (h : RfS W w.heap.size rb A N c q4 st10 x1 s1 g) => RfS.put6 h hrbe x1
      have h7 := fun W (h : RfS W w.heap.size rb A N c q4 st10 x1 s1 g) => RfS.put7 h hrbe s1 g
      have h67 := fun W h => h7 _ (h6 W h)
      have h76 := fun W h => h6 _ (h7 W h)
      unfold putV at h6 h67 h76
      unfold putM put4 at h7 h67 h76
      have HS := Lib.hid hS
      have H6 := Lib.hid h6
      have H7 := Lib.hid h7
      have H67 := Lib.hid h67
      have H76 := Lib.hid h76
      have HRD := Lib.hid RI
      clear hS h6 h7 h67 h76 RI F10
      refine wp_region_held_drew (S := fun W => RfS W w.heap.size rb A N c q4 st10 x1 s1 g) (by kernel_rfl) ⟨r0, r1, r2, r3, k10, k11, k12, k13, k14, k15, k16, k17, m0, m1, m2, m3⟩ (fun hH => ?_)
      refine take_at2 0 70 (v := ?_) rfl rfl (by kernel_rfl) (fun _ _ _ h => h) (Or.inl ⟨by rfl, ?_⟩) hH ?_
      rotate_left
      ·intro W hW
       obtain ⟨r0, r1, r2, r3, k10, k11, k12, k13, k14, k15, k16, k17, m0, m1, m2, m3⟩ := hW
       go_simp
       try with_reducible rfl
      try simp only [Act.put, List.setIfInBounds_toArray, List.set_cons_zero, List.set_cons_succ]
      refine take_at2 1 71 (v := ?_) rfl rfl (by kernel_rfl) (fun _ _ _ h => h) (Or.inl ⟨by rfl, ?_⟩) hH ?_
      rotate_left
      ·intro W hW
       obtain ⟨r0, r1, r2, r3, k10, k11, k12, k13, k14, k15, k16, k17, m0, m1, m2, m3⟩ := hW
       go_simp
       try with_reducible rfl
      try simp only [Act.put, List.setIfInBounds_toArray, List.set_cons_zero, List.set_cons_succ]
      refine take_at2 2 72 (v := ?_) rfl rfl (by kernel_rfl) (fun _ _ _ h => h) (Or.inl ⟨by rfl, ?_⟩) hH ?_
      rotate_left
      ·intro W hW
       obtain ⟨r0, r1, r2, r3, k10, k11, k12, k13, k14, k15, k16, k17, m0, m1, m2, m3⟩ := hW
       go_simp
       try with_reducible rfl
      try simp only [Act.put, List.setIfInBounds_toArray, List.set_cons_zero, List.set_cons_succ]
      refine wpAnyH_ready (rs := [3]) (by kernel_rfl) (by simp) ?_
      refine AllReadyH.cons rfl (fun K hK => ?_) AllReadyH.nil
      go_simp
      refine (CE.out _ _).mono ?_; rintro e u7 ⟨rfl, hb7⟩
      have zz := HS.out _ _ hb7 ⟨r0, r1, r2, r3, k10, k11, k12, k13, k14, k15, k16, k17, m0, m1, m2, m3⟩
      refine hK.out _ _ zz (fun hH2 => ?_)
      clear hK K
      try simp only [Act.put, List.setIfInBounds_toArray, List.set_cons_zero, List.set_cons_succ]
      refine take_at2 4 74 (v := ?_) rfl rfl (by kernel_rfl) (fun _ _ _ h => h) (Or.inl ⟨by rfl, ?_⟩) hH2 ?_
      rotate_left
      ·intro W hW
       go_simp
       try with_reducible rfl
      try simp only [Act.put, List.setIfInBounds_toArray, List.set_cons_zero, List.set_cons_succ]
      refine take_at2 5 75 (v := ?_) rfl rfl (by kernel_rfl) (fun _ _ _ h => h) (Or.inl ⟨by rfl, ?_⟩) hH2 ?_
      rotate_left
      ·intro W hW
       go_simp
       try with_reducible rfl
      try simp only [Act.put, List.setIfInBounds_toArray, List.set_cons_zero, List.set_cons_succ]
      refine take_at2 6 76 rfl rfl (by kernel_rfl) (fun _ _ _ h => h) (Or.inr ⟨by rfl, rfl⟩) hH2 ?_
      try simp only [Act.put, List.setIfInBounds_toArray, List.set_cons_zero, List.set_cons_succ]
      refine take_at2 7 77 rfl rfl (by kernel_rfl) (fun _ _ _ h => h) (Or.inr ⟨by rfl, rfl⟩) hH2 ?_
      try simp only [Act.put, List.setIfInBounds_toArray, List.set_cons_zero, List.set_cons_succ]
      refine take_at2 8 78 rfl rfl (by kernel_rfl) (fun _ _ _ h => h) (Or.inr ⟨by rfl, rfl⟩) hH2 ?_
      try simp only [Act.put, List.setIfInBounds_toArray, List.set_cons_zero, List.set_cons_succ]
      refine take_at2 9 79 (v := ?_) rfl rfl (by kernel_rfl) (fun _ _ _ h => h) (Or.inl ⟨by rfl, ?_⟩) hH2 ?_
      rotate_left
      ·intro W hW
       go_simp
       try with_reducible rfl
      try simp only [Act.put, List.setIfInBounds_toArray, List.set_cons_zero, List.set_cons_succ]
      refine take_at2 10 80 (v := ?_) rfl rfl (by kernel_rfl) (fun _ _ _ h => h) (Or.inl ⟨by rfl, ?_⟩) hH2 ?_
      rotate_left
      ·intro W hW
       go_simp
       try with_reducible rfl
      try simp only [Act.put, List.setIfInBounds_toArray, List.set_cons_zero, List.set_cons_succ]
      refine take_at2 11 81 rfl rfl (by kernel_rfl) (fun _ _ _ h => h) (Or.inr ⟨by rfl, rfl⟩) hH2 ?_
      try simp only [Act.put, List.setIfInBounds_toArray, List.set_cons_zero, List.set_cons_succ]
      refine take_at2 12 82 rfl rfl (by kernel_rfl) (fun _ _ _ h => h) (Or.inr ⟨by rfl, rfl⟩) hH2 ?_
      try simp only [Act.put, List.setIfInBounds_toArray, List.set_cons_zero, List.set_cons_succ]
      refine take_at2 13 83 rfl rfl (by kernel_rfl) (fun _ _ _ h => h) (Or.inr ⟨by rfl, rfl⟩) hH2 ?_
      try simp only [Act.put, List.setIfInBounds_toArray, List.set_cons_zero, List.set_cons_succ]
      refine take_at2 14 84 (v := ?_) rfl rfl (by kernel_rfl) (fun _ _ _ h => h) (Or.inl ⟨by rfl, ?_⟩) hH2 ?_
      rotate_left
      ·intro W hW
       go_simp
       try with_reducible rfl
      try simp only [Act.put, List.setIfInBounds_toArray, List.set_cons_zero, List.set_cons_succ]
      refine take_at2 15 85 (v := ?_) rfl rfl (by kernel_rfl) (fun _ _ _ h => h) (Or.inl ⟨by rfl, ?_⟩) hH2 ?_
      rotate_left
      ·intro W hW
       go_simp
       try with_reducible rfl
      try simp only [Act.put, List.setIfInBounds_toArray, List.set_cons_zero, List.set_cons_succ]
      refine take_at2 16 86 rfl rfl (by kernel_rfl) (fun _ _ _ h => h) (Or.inr ⟨by rfl, rfl⟩) hH2 ?_
      try simp only [Act.put, List.setIfInBounds_toArray, List.set_cons_zero, List.set_cons_succ]
      refine take_at2 17 87 rfl rfl (by kernel_rfl) (fun _ _ _ h => h) (Or.inr ⟨by rfl, rfl⟩) hH2 ?_
      try simp only [Act.put, List.setIfInBounds_toArray, List.set_cons_zero, List.set_cons_succ]
      refine take_at2 18 88 rfl rfl (by kernel_rfl) (fun _ _ _ h => h) (Or.inr ⟨by rfl, rfl⟩) hH2 ?_
      try simp only [Act.put, List.setIfInBounds_toArray, List.set_cons_zero, List.set_cons_succ]
      refine take_at2 19 89 (v := ?_) rfl rfl (by kernel_rfl) (fun _ _ _ h => h) (Or.inl ⟨by rfl, ?_⟩) hH2 ?_
      rotate_left
      ·intro W hW
       go_simp
       try with_reducible rfl
      try simp only [Act.put, List.setIfInBounds_toArray, List.set_cons_zero, List.set_cons_succ]
      have R7 := HRD.out.below hb7
      have HR7 := Lib.hid R7
      clear R7 hb7 hH r0 r1 r2 r3 k10 k11 k12 k13 k14 k15 k16 k17 m0 m1 m2 m3
      obtain ⟨fz0, fz1, fz2, fz3, fz4, fz5, fz6, fz7⟩ := HR7.out.l6.free8
      obtain ⟨o0, o1, o2, o3, o4, o5, o6, o7⟩ := HR7.out.l6.cells
      obtain ⟨n0, n1, n2, n3⟩ := HR7.out.c7
      obtain ⟨e0, e1, e2, e3⟩ := HR7.out.f7
      refine wpAnyH_ready (rs := [20]) (by kernel_rfl) (by simp) ?_
      refine AllReadyH.cons rfl (fun K hK => ?_) AllReadyH.nil
      go_simp
      refine hK.out _ _ (by with_reducible exact H6.out _ zz) (fun hH3 => ?_)
      clear hK K
      refine wpAnyH_ready (rs := [21]) (by kernel_rfl) (by simp) ?_
      refine AllReadyH.cons rfl (fun K hK => ?_) AllReadyH.nil
      go_simp
      refine hK.out _ _ (by with_reducible exact H67.out _ zz) (fun hH4 => ?_)
      clear hK K
      refine take_at2 22 8 (v := ?_) rfl rfl (by kernel_rfl) (fun _ _ _ h => h) (Or.inl ⟨by rfl, ?_⟩) hH4 ?_
      rotate_left
      ·intro W hW
       go_simp
       try with_reducible rfl
      try simp only [Act.put, List.setIfInBounds_toArray, List.set_cons_zero, List.set_cons_succ]
      refine take_at2 23 9 (v := ?_) rfl rfl (by kernel_rfl) (fun _ _ _ h => h) (Or.inl ⟨by rfl, ?_⟩) hH4 ?_
      rotate_left
      ·intro W hW
       go_simp
       try with_reducible rfl
      try simp only [Act.put, List.setIfInBounds_toArray, List.set_cons_zero, List.set_cons_succ]
      refine wpAnyH_done (by kernel_rfl) ?_ _
      clear hH2 hH3 hH4 zz

      go_wp2
      have RF := (HR7.out.put6 x1).put7 s1 g
      unfold putM put4 putV at RF
      refine ResL.ret (B := B) (w := w) (a6 := w.heap.size + 2) (a7 := w.heap.size + 3) (g0 := g) (s := s1) (g := g) (y6 := x1) (s7 := s1) (g7 := g) (v := .tuple #[.agg x1.val, .agg (imV s1 g), .bool false, .bool false]) (by first | (with_reducible exact RF) | exact RF) ?_ rfl ?_
      ·rintro ⟨y0, y1, y2, y3, y4, y5, y6, y7⟩ ⟨z0, z1, z2, z3⟩
       simp [results, Tryz.results31, go_sem, y0, y1, y2, y3, y4, y5, y6, y7, z0, z1, z2, z3, PW.val, imV]
      ·intro RF2
       exact RF2.noF HQN.out
   ·have HK1 : Hid (¬ k = 1) := Lib.hid (fun e => by have := HKI.out; rw [e] at this; simp [this] at t3)
    go_upto_region 7 with (fail)
    obtain ⟨w7, hw7⟩ : ∃ w7, w7 = w6.setCell ⟨w.heap.size, 2, none⟩ (.int .i64 ((s.frames : Int) + 1)) := ⟨_, rfl⟩
    rw [← hw7] at F6 ⊢
    obtain ⟨f1, hf1⟩ : ∃ f1, f1 = s.frames + 1 := ⟨_, rfl⟩
    rw [← hf1] at F6 HQ2
    have HF1 := Lib.hid hf1
    clear hw7 F5 y2 y2f r2 t1 t2 t4 hf1 hfr1
    by_cases k2 : k = 2
    ·subst k2
     obtain rfl : kI = 2 := HKI.out
     have t5 : ((2 : Int) == 2) = true := rfl
     obtain ⟨tx, q3, h3⟩ : ∃ tx q3, q2.text (N : Int) = (tx, q3) := ⟨_, _, rfl⟩
     obtain ⟨⟨pn, pa, pc⟩, pe, hpe⟩ : ∃ p e, procDecode tx = (p, e) := ⟨_, _, rfl⟩
     have hlx : xs.length ≤ 140737488355328 := by rw [← HN.out]; exact HLC.out.1
     have hcx : xs.length ≤ c := by rw [← HN.out]; exact HLC.out.2
     have hl : N ≤ 140737488355328 := HLC.out.1
     have x3 := text_xs q2 (N : Int)
     have p3 := text_pos (s := q2) (N : Int) (by rw [HX2.out, ← HN.out]; exact HP2.out)
     have hml := text_len q2 (N : Int)
     rw [h3, HX2.out] at x3 p3 hml
     simp only at x3 p3 hml
     have c3 := fun W (hb : Keep w.heap.size g.F w W) => rttext_any A c q2 st5 (N : Int) (by omega) (by omega) W (by rw [HX2.out]; exact HROW.out W hb) (by rw [HX2.out, ← HN.out]; exact HP2.out) (by rw [HX2.out]; exact hlx) (by rw [HX2.out]; exact HZ.out) (by rw [HX2.out]; exact hcx)
     have ce := fun st W => rtend_any A c q3 st W (by rw [x3]; exact p3) (by rw [x3]; exact hlx)
     rw [HX2.out, ← HN.out, h3] at c3
     rw [x3, ← HN.out] at ce
     simp only at c3
     obtain ⟨EE, hEE⟩ : ∃ EE, EE = q3.end_ := ⟨_, rfl⟩
     rw [← hEE] at ce
     unfold rvC at c3 ce
     obtain ⟨PE, hPE⟩ : ∃ PE, PE = pwProcE (s.pw 0) ⟨pn, pa, pc⟩ := ⟨_, rfl⟩
     have hq : Q = (if EE ≠ 0 then none else if pe ≠ 0 then none else if PE ≠ 0 then none else some { s with name := pn, procs := s.procs ++ [(⟨pn, pa, pc⟩ : Prc)] }).map (fun s' => { s' with frames := f1 }) := by
      rw [HQ2.out]
      show (rfProc N s q2).map _ = _
      unfold rfProc
      rw [h3]
      simp only [hpe]
      rw [hEE, hPE]
     have C3 := Lib.hid c3
     have CE := Lib.hid ce
     have HQ3 := Lib.hid hq
     have HPE := Lib.hid (And.intro hpe hPE)
     have htl : tx.length ≤ 140737488355328 := by omega
     have HTL := Lib.hid htl
     clear c3 ce hq HQ2 HROW HZ HLC HX2 HP2 HN HKI HK1 HE0 HRB x3 p3 h3 hEE hl hlx hcx hml hpe hPE htl
     obtain ⟨r0, r1, r2, r3, rf0, rf1, rf2, rf3⟩ := F6.lr.rfour
     go_upto_region 15 with (go_at_call 68; refine (C3.out _ F6.b).mono ?_; rintro e w8 ⟨st8, rfl, hb⟩; unfold rvC; have F7 := F6.below hb; clear r0 r1 r2 r3 rf0 rf1 rf2 rf3 F6 hb C3; obtain ⟨r0, r1, r2, r3, rf0, rf1, rf2, rf3⟩ := F7.lr.rfour)
     have F8 := F7.putR q3 st8
     unfold put4 at F8
     obtain ⟨w9, hw9⟩ : ∃ w9, w9 = (((w8.setCell ⟨rb, 0, none⟩ (.slice A N c)).setCell ⟨rb, 1, none⟩ (.int .i64 q3.pos)).setCell ⟨rb, 2, none⟩ (.int .i64 q3.err)).setCell ⟨rb, 3, none⟩ (.int .i64 st8) := ⟨_, rfl⟩
     rw [← hw9] at F8 ⊢
     clear hw9 F7 r0 r1 r2 r3 rf0 rf1 rf2 rf3
     obtain ⟨r0, r1, r2, r3, rf0, rf1, rf2, rf3⟩ := F8.lr.rfour
     by_cases hE : EE = 0
     ·have tE : (EE != 0) = false := by simp [hE]
      have hq := HQ3.out
      rw [if_neg (by simpa using hE)] at hq
      have HQ4 := Lib.hid hq
      clear hq HQ3 hE
      go_upto_region 17 with (go_at_call 67; refine (CE.out _ _).mono ?_; rintro e w10 ⟨rfl, hb⟩; have F9 := F8.below hb; clear r0 r1 r2 r3 rf0 rf1 rf2 rf3 F8 hb CE)
      have htb := run_toBytes (P := Tryz.prog) 9 33 5 (ofBs tx) Tryz.underlying9 Tryz.underlying33 Tryz.underlying5
      have hrs := (Row.str w10 (ofBs tx) (grownCap w10 (ofBs tx).size 0 5) 5)
      rw [show (ofBs tx).data.toList = tx from ofBs_data tx] at hrs
      have hsz : (ofBs tx).size = tx.length := by rw [← size_data, ofBs_data]
      have hgc := grownCap_ge w10 (ofBs tx).size 0 5
      have hb3 := ((Below.refl w10.heap.size w10).alloc (Nat.le_refl _) (strObj (ofBs tx) (grownCap w10 (ofBs tx).size 0 5) 5)).drew
      have hdz := fun W (h : Row W (some ⟨w10.heap.size, 0, none⟩) (cellsB tx)) c' (hc' : tx.length ≤ c') => refDecode_any (some ⟨w10.heap.size, 0, none⟩) c' tx W h HTL.out (fun h => by cases h) hc'
      unfold DPost at hdz
      rw [HPE.out.1, ← hsz] at hdz
      simp only at hdz
      unfold procCells at hdz
      have HDZ := Lib.hid hdz
      have HSR := Lib.hid hrs
      have HGC := Lib.hid hgc
      clear hrs hsz hdz hgc
      go_upto_region 18 with (go_at_call 69; refine (HDZ.out _ HSR.out.drew _ HGC.out).mono ?_; rintro e w11 ⟨A4, c4, rfl, o4, hb⟩; have HSZ10 := Lib.hid F9.b.size; have F10 := (F9.below hb3).below hb; clear hb hb3 htb F9 HSR HGC HDZ)
      have hown := owns_mono' (owns_mono o4 (show w10.heap.size ≤ _ by simp)) ((Below.refl w11.heap.size w11).alloc (Nat.le_refl _) (.cells #[.string pn, .int .i64 pa, .slice A4 pc.length c4] 54))
      have F11 := F10.alloc (.cells #[.string pn, .int .i64 pa, .slice A4 pc.length c4] 54)
      have P11 := Loc.new w11 #[.string pn, .int .i64 pa, .slice A4 pc.length c4] 54
      obtain ⟨w12, hw12⟩ : ∃ w12, w12 = w11.alloc (.cells #[.string pn, .int .i64 pa, .slice A4 pc.length c4] 54) := ⟨_, rfl⟩
      rw [← hw12] at F11 P11 hown ⊢
      have hlt11 : w.heap.size + 3 < w11.heap.size := F10.r.l7.lt
      clear hw12 F10 o4
      by_cases hpe0 : pe = 0
      ·have tP : (pe != 0) = false := by simp [hpe0]
       have hpl := (procCheck_zero (proc_form (b := tx) (p := ⟨pn, pa, pc⟩) (by rw [HPE.out.1, hpe0])).1).2.2.1
       have hpr := r14proc_any (s.pw f1) ⟨pn, pa, pc⟩ A4 c4 w12 (Row.of_owns hown) (by simp only at hpl ⊢; omega)
       rw [show pwProcE (s.pw f1) ⟨pn, pa, pc⟩ = PE from HPE.out.2.symm] at hpr
       unfold PW.val RS.pw procCells at hpr
       simp only [show ((0 : Nat) : Int) = 0 from rfl] at hpr
       have HPR := Lib.hid hpr
       have hq := HQ4.out
       rw [if_neg (by simpa using hpe0)] at hq
       have HQ5 := Lib.hid hq
       clear hq HQ4 hpe0 hpr
       obtain ⟨k10, k11, k12, k13, k14, k15, k16, k17⟩ := F11.lw.cells
       simp only [RS.pw, show ((0 : Nat) : Int) = 0 from rfl] at k10 k11 k12 k13 k14 k15 k16 k17
       obtain ⟨z0, z1, z2, _⟩ := loc_three P11
       by_cases hPE0 : PE = 0
       ·have tQ : (PE != 0) = false := by simp [hPE0]
        have hq := HQ5.out
        rw [if_neg (by simpa using hPE0)] at hq
        have HQ6 := Lib.hid hq
        clear hq HQ5 hPE0
        go_upto_region 20 with (go_at_call 47; refine HPR.out.mono ?_; rintro e w13 ⟨rfl, hb⟩; have F12 := F11.below hb; have P12 := P11.below hb P11.lt; have hown2 := owns_mono' hown hb; clear hb F11 P11 hown HPR k10 k11 k12 k13 k14 k15 k16 k17 z0 z1 z2)
        have z0 := P12.cell 0
        simp only [List.getElem?_toArray, List.getElem?_cons_zero] at z0
        have if5 := Loc.free F12.lw 5
        have i5 := F12.lw.cells.2.2.2.2.2.1
        go_upto_region 21 with (fail)
        have F13 := F12.putW 5 (.string pn) (x' := { s.pw f1 with name := pn }) rfl
        have hown3 := owns_setCell (a := ⟨w.heap.size, 5, none⟩) hown2 (owns_ne hown2 F12.lw (by decide)) (.string pn)
        have P13 := P12.other (a := ⟨w.heap.size, 5, none⟩) (by show w11.heap.size ≠ w.heap.size; omega) (.string pn)
        obtain ⟨w14, hw14⟩ : ∃ w14, w14 = w13.setCell ⟨w.heap.size, 5, none⟩ (.string pn) := ⟨_, rfl⟩
        rw [← hw14] at F13 hown3 P13 ⊢
        clear hw14 F12 P12 hown2 z0 if5 i5
        have k3 : w14.cell? ⟨w.heap.size, 3, none⟩ = some (.int .i64 s.procs.length) := F13.lw.cells.2.2.2.1
        have if3 := Loc.free F13.lw 3
        have hpl1 : (s.procs.length : Int) + 1 ≤ 100000000001 := by have := HNE.out.2.1; omega
        go_upto_region 22 with (fail)
        have F14 := F13.putW 3 (.int .i64 ((s.procs.length : Int) + 1)) (x' := ({ s with name := pn, procs := s.procs ++ [(⟨pn, pa, pc⟩ : Prc)] } : RS).pw f1) (by simp [PW.val, RS.pw])
        have hown4 := owns_setCell (a := ⟨w.heap.size, 3, none⟩) hown3 (owns_ne hown3 F13.lw (by decide)) (.int .i64 ((s.procs.length : Int) + 1))
        have P14 := P13.other (a := ⟨w.heap.size, 3, none⟩) (by show w11.heap.size ≠ w.heap.size; omega) (.int .i64 ((s.procs.length : Int) + 1))
        obtain ⟨w15, hw15⟩ : ∃ w15, w15 = w14.setCell ⟨w.heap.size, 3, none⟩ (.int .i64 ((s.procs.length : Int) + 1)) := ⟨_, rfl⟩
        rw [← hw15] at F14 hown4 P14 ⊢
        clear hw15 F13 P13 hown3 k3 if3
        obtain ⟨z0, z1, z2, _⟩ := loc_three P14
        have i2 := F14.c3.2.2.1
        have F15 := F14.alloc (.cells #[.string pn, .int .i64 pa, .slice A4 pc.length c4] 54)
        have i2a := F15.c3.2.2.1
        have X15 : PrcC.own (w15.alloc (.cells #[.string pn, .int .i64 pa, .slice A4 pc.length c4] 54)) B ⟨⟨pn, pa, pc⟩, A4, c4⟩ := owns_mono' (owns_mono hown4 (by have := HSZ10.out; omega)) ((Below.refl _ _).alloc (Nat.le_refl _) _)
        have hown15 : (w15.alloc (.cells #[.string pn, .int .i64 pa, .slice A4 pc.length c4] 54)).ownsRow 0 54 3 (.slice g.P g.pl.length g.cp) g.pl.length (prcsCells g.pl) := owns_base (base' := 0) F15.r.im.op (fun _ _ => Nat.zero_le _)
        have hsrc := Row.src (P := Tryz.prog) (c := 1) (size := 3) (n := 1) (tx := 36) (Row.of_loc (Loc.new w15 #[.string pn, .int .i64 pa, .slice A4 pc.length c4] 54)) Tryz.underlying36 rfl (by simp [Value.oneCell']) (fun h => by simp at h)
        have HSRC := Lib.hid hsrc
        have HOWN := Lib.hid hown15
        have HX15 := Lib.hid X15
        have hgl : g.pl.length ≤ 100000000000 := by have := HNE.out.2.1; rw [← F14.r.im.hp, List.length_map] at this; exact this
        clear hsrc hown15 hown4 X15
        have gi := F14.li.free 2
        go_upto_region 23 with (at_builtin; refine wpList_append_mine _ rfl _ _ 36 36 rfl 54 (.agg #[.string ⟨#[]⟩, .int .i64 0, .slice none 0 0]) 3 48 Tryz.underlying36 infoProc rfl (by decide) (.slice g.P g.pl.length g.cp) g.pl.length (prcsCells g.pl) rfl HOWN.out _ 1 _ rfl HSRC.out (by unfold maxLen; omega) (by omega) ?_; intro A3 c3 w16 hown hg hbl hx; have F16 := F15.addP (X := ⟨⟨pn, pa, pc⟩, A4, c4⟩) HX15.out hown hg hbl hB; have LI := F15.grownP hg; clear hown hg hbl hx F15 F14 i2a i2 HOWN HSRC HX15 P14 z0 z1 z2; have i2b : w16.cell? ⟨w.heap.size + 1, 2, none⟩ = some (.slice g.P g.pl.length g.cp) := LI.cell 2; have g2b := LI.free 2; clear LI)
        obtain ⟨w17, hw17⟩ : ∃ w17, w17 = w16.setCell ⟨w.heap.size + 1, 2, none⟩ (.slice A3 (g.pl.length + 1) c3) := ⟨_, rfl⟩
        rw [← hw17] at F16 ⊢
        clear hw17 i2b g2b gi hgl hpl1
        obtain ⟨g2, hg2⟩ : ∃ g2 : RG, g2 = { g with pl := g.pl ++ [⟨⟨pn, pa, pc⟩, A4, c4⟩], P := A3, cp := c3 } := ⟨_, rfl⟩
        obtain ⟨s2, hs2⟩ : ∃ s2 : RS, s2 = { s with name := pn, procs := s.procs ++ [(⟨pn, pa, pc⟩ : Prc)] } := ⟨_, rfl⟩
        have hq := HQ6.out
        rw [← hs2] at hq
        have HQ7 : Hid (Q = some { s2 with frames := f1 }) := Lib.hid hq
        rw [← hs2, ← hg2] at F16
        clear hg2 hs2 hq HQ6
        obtain ⟨k10, k11, k12, k13, k14, k15, k16, k17⟩ := F16.lw.cells
        obtain ⟨m0, m1, m2, m3⟩ := F16.c3
        have RI := F16.r
        obtain ⟨fz0, fz1, fz2, fz3, fz4, fz5, fz6, fz7⟩ := RI.l6.free8
        obtain ⟨o0, o1, o2, o3, o4, o5, o6, o7⟩ := RI.l6.cells
        obtain ⟨n0, n1, n2, n3⟩ := RI.c7
        obtain ⟨e0, e1, e2, e3⟩ := RI.f7
        have HRI := Lib.hid RI
        clear RI F16
        go_region
        all_goals
         go_wp2
         have RF := ((HRI.out.put6 (s2.pw f1)).put7 s2 g2).drew
         unfold putM put4 putV at RF
         refine ResL.ret (B := B) (w := w) (a6 := w.heap.size + 2) (a7 := w.heap.size + 3) (g0 := g) (s := s2) (g := g2) (y6 := (s2.pw f1)) (s7 := s2) (g7 := g2) (v := .tuple #[.agg (s2.pw f1).val, .agg (imV s2 g2), .bool true, .bool false]) (by first | (with_reducible exact RF) | exact RF) ?_ rfl ?_
         ·rintro ⟨y0, y1, y2, y3, y4, y5, y6, y7⟩ ⟨z0, z1, z2, z3⟩
          simp [results, Tryz.results31, go_sem, y0, y1, y2, y3, y4, y5, y6, y7, z0, z1, z2, z3, PW.val, imV]
         ·intro RF2
          exact RF2.yesH rfl HQ7.out
       ·have HQN : Hid (Q = none) := Lib.hid (by rw [HQ5.out, if_pos hPE0]; rfl)
        have tQ : (PE != 0) = true := by simpa using hPE0
        clear hPE0 HQ5
        go_upto_region 19 with (go_at_call 47; refine HPR.out.mono ?_; rintro e w13 ⟨rfl, hb⟩; have F12 := F11.below hb; have P12 := P11.below hb P11.lt; have hown2 := owns_mono' hown hb; clear hb F11 P11 hown HPR k10 k11 k12 k13 k14 k15 k16 k17 z0 z1 z2)
        obtain ⟨k10, k11, k12, k13, k14, k15, k16, k17⟩ := F12.lw.cells
        obtain ⟨m0, m1, m2, m3⟩ := F12.c3
        have RI := F12.r
        obtain ⟨fz0, fz1, fz2, fz3, fz4, fz5, fz6, fz7⟩ := RI.l6.free8
        obtain ⟨o0, o1, o2, o3, o4, o5, o6, o7⟩ := RI.l6.cells
        obtain ⟨n0, n1, n2, n3⟩ := RI.c7
        obtain ⟨e0, e1, e2, e3⟩ := RI.f7

        have HRI := Lib.hid RI
        have HQN : Hid (Q = none) := Lib.hid HQN.out
        clear RI F12
        go_region

        all_goals
         go_wp2
         have RF := ((HRI.out.put6 (s.pw f1)).put7 s g).drew
         unfold putM put4 putV at RF
         refine ResL.ret (B := B) (w := w) (a6 := w.heap.size + 2) (a7 := w.heap.size + 3) (g0 := g) (s := s) (g := g) (y6 := (s.pw f1)) (s7 := s) (g7 := g) (v := .tuple #[.agg (s.pw f1).val, .agg (imV s g), .bool false, .bool false]) (by first | (with_reducible exact RF) | exact RF) ?_ rfl ?_
         ·rintro ⟨y0, y1, y2, y3, y4, y5, y6, y7⟩ ⟨z0, z1, z2, z3⟩
          simp [results, Tryz.results31, go_sem, y0, y1, y2, y3, y4, y5, y6, y7, z0, z1, z2, z3, PW.val, imV]
         ·intro RF2
          exact RF2.noF HQN.out
      ·have HQN : Hid (Q = none) := Lib.hid (by rw [HQ4.out, if_pos hpe0]; rfl)
       have tP : (pe != 0) = true := by simpa using hpe0
       clear hpe0 HQ4 hown P11
       go_upto_region 19 with (fail)
       obtain ⟨k10, k11, k12, k13, k14, k15, k16, k17⟩ := F11.lw.cells
       obtain ⟨m0, m1, m2, m3⟩ := F11.c3
       have RI := F11.r
       obtain ⟨fz0, fz1, fz2, fz3, fz4, fz5, fz6, fz7⟩ := RI.l6.free8
       obtain ⟨o0, o1, o2, o3, o4, o5, o6, o7⟩ := RI.l6.cells
       obtain ⟨n0, n1, n2, n3⟩ := RI.c7
       obtain ⟨e0, e1, e2, e3⟩ := RI.f7

       have HRI := Lib.hid RI
       have HQN : Hid (Q = none) := Lib.hid HQN.out
       clear RI F11
       go_region

       all_goals
        go_wp2
        have RF := ((HRI.out.put6 (s.pw f1)).put7 s g).drew
        unfold putM put4 putV at RF
        refine ResL.ret (B := B) (w := w) (a6 := w.heap.size + 2) (a7 := w.heap.size + 3) (g0 := g) (s := s) (g := g) (y6 := (s.pw f1)) (s7 := s) (g7 := g) (v := .tuple #[.agg (s.pw f1).val, .agg (imV s g), .bool false, .bool false]) (by first | (with_reducible exact RF) | exact RF) ?_ rfl ?_
        ·rintro ⟨y0, y1, y2, y3, y4, y5, y6, y7⟩ ⟨z0, z1, z2, z3⟩
         simp [results, Tryz.results31, go_sem, y0, y1, y2, y3, y4, y5, y6, y7, z0, z1, z2, z3, PW.val, imV]
        ·intro RF2
         exact RF2.noF HQN.out
     ·have HQN : Hid (Q = none) := Lib.hid (by rw [HQ3.out, if_pos hE]; rfl)
      have tE : (EE != 0) = true := by simpa using hE
      clear hE HQ3
      go_upto_region 16 with (go_at_call 67; refine (CE.out _ _).mono ?_; rintro e w10 ⟨rfl, hb⟩; have F9 := F8.below hb; clear r0 r1 r2 r3 rf0 rf1 rf2 rf3 F8 hb CE)
      obtain ⟨k10, k11, k12, k13, k14, k15, k16, k17⟩ := F9.lw.cells
      obtain ⟨m0, m1, m2, m3⟩ := F9.c3
      have RI := F9.r
      obtain ⟨fz0, fz1, fz2, fz3, fz4, fz5, fz6, fz7⟩ := RI.l6.free8
      obtain ⟨o0, o1, o2, o3, o4, o5, o6, o7⟩ := RI.l6.cells
      obtain ⟨n0, n1, n2, n3⟩ := RI.c7
      obtain ⟨e0, e1, e2, e3⟩ := RI.f7

      have HRI := Lib.hid RI
      have HQN : Hid (Q = none) := Lib.hid HQN.out
      clear RI F9
      go_region

      all_goals
       go_wp2
       have RF := ((HRI.out.put6 (s.pw f1)).put7 s g).drew
       unfold putM put4 putV at RF
       refine ResL.ret (B := B) (w := w) (a6 := w.heap.size + 2) (a7 := w.heap.size + 3) (g0 := g) (s := s) (g := g) (y6 := (s.pw f1)) (s7 := s) (g7 := g) (v := .tuple #[.agg (s.pw f1).val, .agg (imV s g), .bool false, .bool false]) (by first | (with_reducible exact RF) | exact RF) ?_ rfl ?_
       ·rintro ⟨y0, y1, y2, y3, y4, y5, y6, y7⟩ ⟨z0, z1, z2, z3⟩
        simp [results, Tryz.results31, go_sem, y0, y1, y2, y3, y4, y5, y6, y7, z0, z1, z2, z3, PW.val, imV]
       ·intro RF2
        exact RF2.noF HQN.out
    ·by_cases k3 : k = 3
     ·subst k3
      obtain rfl : kI = 3 := HKI.out
      have t5 : ((3 : Int) == 1) = false := rfl
      have t6 : ((3 : Int) == 2) = false := rfl
      have t7 : ((3 : Int) == 3) = true := rfl
      have hq : Q = (rfPage N s q2).map (fun s' => { s' with frames := f1 }) := HQ2.out
      have c3 := fun W (hb : Keep w.heap.size g.F w W) (hI : Img B W s g) => r14ents_any B W s g f1 A c q2 st5 hI (Nat.le_trans hB hb.size) (by rw [HX2.out]; exact HROW.out W hb) HRB.out (by rw [HX2.out, ← HN.out]; exact HP2.out) (by rw [HX2.out]; rw [← HN.out]; exact HLC.out.1) (by rw [HX2.out]; exact HZ.out) (by rw [HX2.out, ← HN.out]; exact HLC.out.2) HNE.out.1
      rw [HX2.out, ← HN.out] at c3
      obtain ⟨Qp, hQp⟩ : ∃ Qp, Qp = rfPage N s q2 := ⟨_, rfl⟩
      rw [← hQp] at c3 hq
      unfold rvC PW.val imV RS.pw at c3
      simp only [show ((0 : Nat) : Int) = 0 from rfl] at c3
      have C3 := Lib.hid c3
      have HQ3 := Lib.hid hq
      clear c3 hq hQp HQ2 HROW HZ HLC HX2 HP2 HNE HN HKI HK1 HE0 HRB
      obtain ⟨r0, r1, r2, r3, _⟩ := F6.lr.rfour
      obtain ⟨k10, k11, k12, k13, k14, k15, k16, k17⟩ := F6.lw.cells
      obtain ⟨m0, m1, m2, m3⟩ := F6.c3
      simp only [RS.pw, show ((0 : Nat) : Int) = 0 from rfl] at k10 k11 k12 k13 k14 k15 k16 k17
      go_upto_region 26 with (go_at_call 70; refine (C3.out _ F6.b F6.r.im).mono ?_; rintro e w8 ⟨K8, bb, x8, s8, g8, rfl, I8, HF8, HY, HN8⟩; have R8 := (F6.kept K8 I8 HF8).2; have HHY := Lib.hid (And.intro HY HN8); clear K8 I8 HF8 HY HN8 F6 C3 r0 r1 r2 r3 k10 k11 k12 k13 k14 k15 k16 k17 m0 m1 m2 m3; unfold okE PW.val imV)
      have R9 := R8.below (((Below.refl w8.heap.size w8).alloc (Nat.le_refl _) (.cells x8.val 29)).alloc (by simp) (.cells (imV s8 g8) 41))
      have L16 : VLoc ((w8.alloc (.cells x8.val 29)).alloc (.cells (imV s8 g8) 41)) w8.heap.size x8 := (Loc.new w8 x8.val 29).alloc _
      have L17 := Loc.new (w8.alloc (.cells x8.val 29)) (imV s8 g8) 41
      rw [World.size_alloc] at L17
      obtain ⟨w9, hw9⟩ : ∃ w9, w9 = (w8.alloc (.cells x8.val 29)).alloc (.cells (imV s8 g8) 41) := ⟨_, rfl⟩
      rw [← hw9] at R9 L16 L17
      have HW9 := Lib.hid hw9.symm
      have hlt8 : w.heap.size + 3 < w8.heap.size := R8.l7.lt
      have u1 : ¬ w8.heap.size = w.heap.size + 2 := by omega
      have u2 : ¬ w8.heap.size + 1 = w.heap.size + 2 := by omega
      have u3 : ¬ w8.heap.size = w.heap.size + 3 := by omega
      have u4 : ¬ w8.heap.size + 1 = w.heap.size + 3 := by omega
      have u5 : ¬ w.heap.size + 2 = w8.heap.size := by omega
      have u6 : ¬ w.heap.size + 2 = w8.heap.size + 1 := by omega
      have u7 : ¬ w.heap.size + 3 = w8.heap.size := by omega
      have u8 : ¬ w.heap.size + 3 = w8.heap.size + 1 := by omega
      unfold PW.val imV at HW9
      rw [HW9.out]
      clear hw9 HW9 R8
      obtain ⟨k10, k11, k12, k13, k14, k15, k16, k17⟩ := L16.cells
      have m0 : w9.cell? ⟨w8.heap.size + 1, 0, none⟩ = some (.int .i64 s8.number) := L17.cell 0
      have m1 : w9.cell? ⟨w8.heap.size + 1, 1, none⟩ = some (.int .i64 s8.mark) := L17.cell 1
      have m2 : w9.cell? ⟨w8.heap.size + 1, 2, none⟩ = some (.slice g8.P g8.pl.length g8.cp) := L17.cell 2
      have m3 : w9.cell? ⟨w8.heap.size + 1, 3, none⟩ = some (.slice g8.E s8.entries.length g8.ce) := L17.cell 3
      have RI := R9
      obtain ⟨fz0, fz1, fz2, fz3, fz4, fz5, fz6, fz7⟩ := RI.l6.free8
      obtain ⟨o0, o1, o2, o3, o4, o5, o6, o7⟩ := RI.l6.cells
      obtain ⟨n0, n1, n2, n3⟩ := RI.c7
      obtain ⟨e0, e1, e2, e3⟩ := RI.f7
      have HRI := Lib.hid RI
      clear RI R9 L16 L17
      go_region
      all_goals
       go_wp2
       have RF := ((HRI.out.put6 x8).put7 s8 g8).drew
       unfold putM put4 putV at RF
       refine ResL.ret (B := B) (w := w) (a6 := w.heap.size + 2) (a7 := w.heap.size + 3) (g0 := g) (s := s8) (g := g8) (y6 := x8) (s7 := s8) (g7 := g8) (v := .tuple #[.agg x8.val, .agg (imV s8 g8), .bool bb, .bool false]) (by first | (with_reducible exact RF) | exact RF) ?_ rfl ?_
       ·rintro ⟨y0, y1, y2, y3, y4, y5, y6, y7⟩ ⟨z0, z1, z2, z3⟩
        simp [results, Tryz.results31, go_sem, y0, y1, y2, y3, y4, y5, y6, y7, z0, z1, z2, z3, PW.val, imV]
       ·intro RF2
        cases hQp : Qp with
        | none =>
         obtain rfl : bb = false := HHY.out.2 hQp
         exact RF2.noF (by rw [HQ3.out, hQp]; rfl)
        | some s' =>
         obtain ⟨rfl, rfl, rfl⟩ := HHY.out.1 s' hQp
         have R := RF2.img (s' := { s8 with frames := f1 }) rfl rfl
         exact ResL.yesF (s := { s8 with frames := f1 }) ⟨R.l6, R.l7, R.im, R.b, R.hF, R.h6, R.h7, R.ne⟩ (by rw [HQ3.out, hQp]; rfl)
     ·by_cases k4 : k = 4
      ·subst k4
       obtain rfl : kI = 4 := HKI.out
       have t5 : ((4 : Int) == 2) = false := rfl
       have t6 : ((4 : Int) == 3) = false := rfl
       have t7 : ((4 : Int) == 4) = true := rfl
       obtain ⟨va, q3, h3⟩ : ∃ va q3, q2.number = (va, q3) := ⟨_, _, rfl⟩
       obtain ⟨vb, q4, h4⟩ : ∃ vb q4, q3.number = (vb, q4) := ⟨_, _, rfl⟩
       have x3 := number_xs q2
       have p3 := number_pos (s := q2) (by rw [HX2.out, ← HN.out]; exact HP2.out)
       rw [h3, HX2.out] at x3 p3
       simp only at x3 p3
       have x4 := number_xs q3
       have p4 := number_pos (s := q3) (by rw [x3]; exact p3)
       rw [h4, x3] at x4 p4
       simp only at x4 p4
       have ha := number_nonneg q2
       have hb' := number_nonneg q3
       rw [h3] at ha
       rw [h4] at hb'
       simp only at ha hb'
       have hl : xs.length ≤ 140737488355328 := by rw [← HN.out]; exact HLC.out.1
       have c3 := fun W (hb : Keep w.heap.size g.F w W) => rtnumber_any A c q2 st5 W (by rw [HX2.out]; exact HROW.out W hb) (by rw [HX2.out, ← HN.out]; exact HP2.out) (by rw [HX2.out]; exact hl) (by rw [HX2.out]; exact HZ.out)
       have c4 := fun st W (hb : Keep w.heap.size g.F w W) => rtnumber_any A c q3 st W (by rw [x3]; exact HROW.out W hb) (by rw [x3]; exact p3) (by rw [x3]; exact hl) (by rw [x3]; exact HZ.out)
       have ce := fun st W => rtend_any A c q4 st W (by rw [x4]; exact p4) (by rw [x4]; exact hl)
       rw [HX2.out, ← HN.out, h3] at c3
       rw [x3, ← HN.out, h4] at c4
       rw [x4, ← HN.out] at ce
       simp only at c3 c4
       obtain ⟨EE, hEE⟩ : ∃ EE, EE = q4.end_ := ⟨_, rfl⟩
       rw [← hEE] at ce
       unfold rvC at c3 c4 ce
       have C3 := Lib.hid c3
       have C4 := Lib.hid c4
       have CE := Lib.hid ce
       have hq : Q = (if EE = 0 ∧ va = s.procs.length ∧ vb = s.entries.length then some s else none).map (fun s' => { s' with frames := f1 }) := by
        rw [HQ2.out]
        show (rfEnd s q2).map _ = _
        unfold rfEnd
        rw [h3]
        simp only [h4]
        rw [hEE]
       have HQ3 := Lib.hid hq
       clear c3 c4 ce hq HQ2 HROW HZ HLC HX2 HP2 HN HKI HK1 HE0 HRB x3 x4 p3 p4 h3 h4 hEE k2 k3 hl ha hb'
       obtain ⟨r0, r1, r2, r3, _⟩ := F6.lr.rfour
       go_upto_region 31 with (go_at_call 66; refine (C3.out _ F6.b).mono ?_; rintro e w8 ⟨st8, rfl, hb⟩; unfold rvC; have F7 := F6.below hb; clear r0 r1 r2 r3 F6 hb C3; obtain ⟨r0, r1, r2, r3, rf0, rf1, rf2, rf3⟩ := F7.lr.rfour)
       have F8 := F7.putR q3 st8
       unfold put4 at F8
       obtain ⟨w9, hw9⟩ : ∃ w9, w9 = (((w8.setCell ⟨rb, 0, none⟩ (.slice A N c)).setCell ⟨rb, 1, none⟩ (.int .i64 q3.pos)).setCell ⟨rb, 2, none⟩ (.int .i64 q3.err)).setCell ⟨rb, 3, none⟩ (.int .i64 st8) := ⟨_, rfl⟩
       rw [← hw9] at F8 ⊢
       clear hw9 F7 r0 r1 r2 r3 rf0 rf1 rf2 rf3
       obtain ⟨r0, r1, r2, r3, rf0, rf1, rf2, rf3⟩ := F8.lr.rfour
       go_upto_region 32 with (go_at_call 66; refine (C4.out _ _ F8.b).mono ?_; rintro e w10 ⟨st10, rfl, hb⟩; unfold rvC; have F9 := F8.below hb; clear r0 r1 r2 r3 rf0 rf1 rf2 rf3 F8 hb C4; obtain ⟨r0, r1, r2, r3, rf0, rf1, rf2, rf3⟩ := F9.lr.rfour)
       have F10 := F9.putR q4 st10
       unfold put4 at F10
       obtain ⟨w11, hw11⟩ : ∃ w11, w11 = (((w10.setCell ⟨rb, 0, none⟩ (.slice A N c)).setCell ⟨rb, 1, none⟩ (.int .i64 q4.pos)).setCell ⟨rb, 2, none⟩ (.int .i64 q4.err)).setCell ⟨rb, 3, none⟩ (.int .i64 st10) := ⟨_, rfl⟩
       rw [← hw11] at F10 ⊢
       clear hw11 F9 r0 r1 r2 r3 rf0 rf1 rf2 rf3
       by_cases hE : EE = 0
       ·have tE : (EE == 0) = true := by simp [hE]
        by_cases hA : va = s.procs.length
        ·have tA : (va == ((s.pw f1).procs : Int)) = true := by simp [hA, RS.pw]
         have HQY : Hid (Q = (if vb = s.entries.length then some s else none).map (fun s' => { s' with frames := f1 })) := Lib.hid (by rw [HQ3.out]; simp only [hE, hA, true_and])
         clear hE hA HQ3
         obtain ⟨r0, r1, r2, r3, _⟩ := F10.lr.rfour
         obtain ⟨k10, k11, k12, k13, k14, k15, k16, k17⟩ := F10.lw.cells
         obtain ⟨m0, m1, m2, m3⟩ := F10.c3
         have hrbe := F10.hrb
         have RI := F10.r.drew
         have hS : ∀ W W', Below W.heap.size W W' → (RfS W w.heap.size rb A N c q4 st10 (s.pw f1) s g) → (RfS W' w.heap.size rb A N c q4 st10 (s.pw f1) s g) := fun W W' hb h => RfS.below h hb
         have h6 := fun W (h : RfS W w.heap.size rb A N c q4 st10 (s.pw f1) s g) => RfS.put6 h hrbe (s.pw f1)
         have h7 := fun W (h : RfS W w.heap.size rb A N c q4 st10 (s.pw f1) s g) => RfS.put7 h hrbe s g
         have h67 := fun W h => h7 _ (h6 W h)
         have h76 := fun W h => h6 _ (h7 W h)
         unfold putV at h6 h67 h76
         unfold putM put4 at h7 h67 h76
         have HS := Lib.hid hS
         have H6 := Lib.hid h6
         have H7 := Lib.hid h7
         have H67 := Lib.hid h67
         have H76 := Lib.hid h76
         have HRD := Lib.hid RI
         clear hS h6 h7 h67 h76 RI F10
         refine wp_region_held_drew (S := fun W => RfS W w.heap.size rb A N c q4 st10 (s.pw f1) s g) (by kernel_rfl) ⟨r0, r1, r2, r3, k10, k11, k12, k13, k14, k15, k16, k17, m0, m1, m2, m3⟩ (fun hH => ?_)
         refine take_at2 0 161 (v := ?_) rfl rfl (by kernel_rfl) (fun _ _ _ h => h) (Or.inl ⟨by rfl, ?_⟩) hH ?_
         rotate_left
         ·intro W hW
          obtain ⟨r0, r1, r2, r3, k10, k11, k12, k13, k14, k15, k16, k17, m0, m1, m2, m3⟩ := hW
          go_simp
          try with_reducible rfl
         try simp only [Act.put, List.setIfInBounds_toArray, List.set_cons_zero, List.set_cons_succ]
         refine take_at2 1 162 (v := ?_) rfl rfl (by kernel_rfl) (fun _ _ _ h => h) (Or.inl ⟨by rfl, ?_⟩) hH ?_
         rotate_left
         ·intro W hW
          obtain ⟨r0, r1, r2, r3, k10, k11, k12, k13, k14, k15, k16, k17, m0, m1, m2, m3⟩ := hW
          go_simp
          try with_reducible rfl
         try simp only [Act.put, List.setIfInBounds_toArray, List.set_cons_zero, List.set_cons_succ]
         refine take_at2 2 163 (v := ?_) rfl rfl (by kernel_rfl) (fun _ _ _ h => h) (Or.inl ⟨by rfl, ?_⟩) hH ?_
         rotate_left
         ·intro W hW
          obtain ⟨r0, r1, r2, r3, k10, k11, k12, k13, k14, k15, k16, k17, m0, m1, m2, m3⟩ := hW
          go_simp
          try with_reducible rfl
         try simp only [Act.put, List.setIfInBounds_toArray, List.set_cons_zero, List.set_cons_succ]
         refine wpAnyH_ready (rs := [3]) (by kernel_rfl) (by simp) ?_
         refine AllReadyH.cons rfl (fun K hK => ?_) AllReadyH.nil
         go_simp
         refine (CE.out _ _).mono ?_; rintro e u7 ⟨rfl, hb7⟩
         have zz := HS.out _ _ hb7 ⟨r0, r1, r2, r3, k10, k11, k12, k13, k14, k15, k16, k17, m0, m1, m2, m3⟩
         refine hK.out _ _ zz (fun hH2 => ?_)
         clear hK K
         try simp only [Act.put, List.setIfInBounds_toArray, List.set_cons_zero, List.set_cons_succ]
         refine take_at2 4 165 (v := ?_) rfl rfl (by kernel_rfl) (fun _ _ _ h => h) (Or.inl ⟨by rfl, ?_⟩) hH2 ?_
         rotate_left
         ·intro W hW
          go_simp
          try with_reducible rfl
         try simp only [Act.put, List.setIfInBounds_toArray, List.set_cons_zero, List.set_cons_succ]
         refine take_at2 5 166 (v := ?_) rfl rfl (by kernel_rfl) (fun _ _ _ h => h) (Or.inl ⟨by rfl, ?_⟩) hH2 ?_
         rotate_left
         ·intro W hW
          go_simp
          try with_reducible rfl
         try simp only [Act.put, List.setIfInBounds_toArray, List.set_cons_zero, List.set_cons_succ]
         refine take_at2 6 167 (v := ?_) rfl rfl (by kernel_rfl) (fun _ _ _ h => h) (Or.inl ⟨by rfl, ?_⟩) hH2 ?_
         rotate_left
         ·intro W hW
          go_simp
          try with_reducible rfl
         try simp only [Act.put, List.setIfInBounds_toArray, List.set_cons_zero, List.set_cons_succ]
         refine take_at2 7 168 (v := ?_) rfl rfl (by kernel_rfl) (fun _ _ _ h => h) (Or.inl ⟨by rfl, ?_⟩) hH2 ?_
         rotate_left
         ·intro W hW
          go_simp
          try with_reducible rfl
         try simp only [Act.put, List.setIfInBounds_toArray, List.set_cons_zero, List.set_cons_succ]
         refine take_at2 8 169 (v := ?_) rfl rfl (by kernel_rfl) (fun _ _ _ h => h) (Or.inl ⟨by rfl, ?_⟩) hH2 ?_
         rotate_left
         ·intro W hW
          go_simp
          try with_reducible rfl
         try simp only [Act.put, List.setIfInBounds_toArray, List.set_cons_zero, List.set_cons_succ]
         refine take_at2 9 170 (v := ?_) rfl rfl (by kernel_rfl) (fun _ _ _ h => h) (Or.inl ⟨by rfl, ?_⟩) hH2 ?_
         rotate_left
         ·intro W hW
          go_simp
          try with_reducible rfl
         try simp only [Act.put, List.setIfInBounds_toArray, List.set_cons_zero, List.set_cons_succ]
         refine take_at2 10 171 (v := ?_) rfl rfl (by kernel_rfl) (fun _ _ _ h => h) (Or.inl ⟨by rfl, ?_⟩) hH2 ?_
         rotate_left
         ·intro W hW
          go_simp
          try with_reducible rfl
         try simp only [Act.put, List.setIfInBounds_toArray, List.set_cons_zero, List.set_cons_succ]
         refine take_at2 11 172 (v := ?_) rfl rfl (by kernel_rfl) (fun _ _ _ h => h) (Or.inl ⟨by rfl, ?_⟩) hH2 ?_
         rotate_left
         ·intro W hW
          go_simp
          try with_reducible rfl
         try simp only [Act.put, List.setIfInBounds_toArray, List.set_cons_zero, List.set_cons_succ]
         refine take_at2 12 173 (v := ?_) rfl rfl (by kernel_rfl) (fun _ _ _ h => h) (Or.inl ⟨by rfl, ?_⟩) hH2 ?_
         rotate_left
         ·intro W hW
          go_simp
          try with_reducible rfl
         try simp only [Act.put, List.setIfInBounds_toArray, List.set_cons_zero, List.set_cons_succ]
         refine take_at2 13 174 (v := ?_) rfl rfl (by kernel_rfl) (fun _ _ _ h => h) (Or.inl ⟨by rfl, ?_⟩) hH2 ?_
         rotate_left
         ·intro W hW
          go_simp
          try with_reducible rfl
         try simp only [Act.put, List.setIfInBounds_toArray, List.set_cons_zero, List.set_cons_succ]
         refine take_at2 14 175 (v := ?_) rfl rfl (by kernel_rfl) (fun _ _ _ h => h) (Or.inl ⟨by rfl, ?_⟩) hH2 ?_
         rotate_left
         ·intro W hW
          go_simp
          try with_reducible rfl
         try simp only [Act.put, List.setIfInBounds_toArray, List.set_cons_zero, List.set_cons_succ]
         refine take_at2 15 176 (v := ?_) rfl rfl (by kernel_rfl) (fun _ _ _ h => h) (Or.inl ⟨by rfl, ?_⟩) hH2 ?_
         rotate_left
         ·intro W hW
          go_simp
          try with_reducible rfl
         try simp only [Act.put, List.setIfInBounds_toArray, List.set_cons_zero, List.set_cons_succ]
         refine take_at2 16 177 (v := ?_) rfl rfl (by kernel_rfl) (fun _ _ _ h => h) (Or.inl ⟨by rfl, ?_⟩) hH2 ?_
         rotate_left
         ·intro W hW
          go_simp
          try with_reducible rfl
         try simp only [Act.put, List.setIfInBounds_toArray, List.set_cons_zero, List.set_cons_succ]
         have R7 := HRD.out.below hb7
         have HR7 := Lib.hid R7
         clear R7 hb7 hH r0 r1 r2 r3 k10 k11 k12 k13 k14 k15 k16 k17 m0 m1 m2 m3
         obtain ⟨fz0, fz1, fz2, fz3, fz4, fz5, fz6, fz7⟩ := HR7.out.l6.free8
         obtain ⟨o0, o1, o2, o3, o4, o5, o6, o7⟩ := HR7.out.l6.cells
         obtain ⟨n0, n1, n2, n3⟩ := HR7.out.c7
         obtain ⟨e0, e1, e2, e3⟩ := HR7.out.f7
         refine wpAnyH_ready (rs := [17]) (by kernel_rfl) (by simp) ?_
         refine AllReadyH.cons rfl (fun K hK => ?_) AllReadyH.nil
         go_simp
         refine hK.out _ _ (by with_reducible exact H6.out _ zz) (fun hH3 => ?_)
         clear hK K
         refine wpAnyH_ready (rs := [18]) (by kernel_rfl) (by simp) ?_
         refine AllReadyH.cons rfl (fun K hK => ?_) AllReadyH.nil
         go_simp
         refine hK.out _ _ (by with_reducible exact H67.out _ zz) (fun hH4 => ?_)
         clear hK K
         refine take_at2 19 8 (v := ?_) rfl rfl (by kernel_rfl) (fun _ _ _ h => h) (Or.inl ⟨by rfl, ?_⟩) hH4 ?_
         rotate_left
         ·intro W hW
          go_simp
          try with_reducible rfl
         try simp only [Act.put, List.setIfInBounds_toArray, List.set_cons_zero, List.set_cons_succ]
         refine take_at2 20 9 (v := ?_) rfl rfl (by kernel_rfl) (fun _ _ _ h => h) (Or.inl ⟨by rfl, ?_⟩) hH4 ?_
         rotate_left
         ·intro W hW
          go_simp
          try with_reducible rfl
         try simp only [Act.put, List.setIfInBounds_toArray, List.set_cons_zero, List.set_cons_succ]
         refine wpAnyH_done (by kernel_rfl) ?_ _
         clear hH2 hH3 hH4 zz

         go_wp2
         have RF := (HR7.out.put6 (s.pw f1)).put7 s g
         unfold putM put4 putV at RF
         refine ResL.ret (B := B) (w := w) (a6 := w.heap.size + 2) (a7 := w.heap.size + 3) (g0 := g) (s := s) (g := g) (y6 := (s.pw f1)) (s7 := s) (g7 := g) (v := .tuple #[.agg (s.pw f1).val, .agg (imV s g), .bool (vb == ((s.pw f1).entries : Int)), .bool true]) (by first | (with_reducible exact RF) | exact RF) ?_ rfl ?_
         ·rintro ⟨y0, y1, y2, y3, y4, y5, y6, y7⟩ ⟨z0, z1, z2, z3⟩
          simp [results, Tryz.results31, go_sem, y0, y1, y2, y3, y4, y5, y6, y7, z0, z1, z2, z3, PW.val, imV]
         ·intro RF2
          by_cases hB2 : vb = s.entries.length
          ·have h1 : (vb == ((s.pw f1).entries : Int)) = true := by simp [hB2, RS.pw]
           rw [h1]
           have R := RF2.img (s' := { s with frames := f1 }) rfl rfl
           exact ResL.yesF (s := { s with frames := f1 }) ⟨R.l6, R.l7, R.im, R.b, R.hF, R.h6, R.h7, R.ne⟩ (by rw [HQY.out, if_pos hB2]; rfl)
          ·have h1 : (vb == ((s.pw f1).entries : Int)) = false := by simpa [RS.pw] using hB2
           rw [h1]
           exact RF2.noF (by rw [HQY.out, if_neg hB2]; rfl)
        ·have HQN : Hid (Q = none) := Lib.hid (by rw [HQ3.out, if_neg (fun h => hA h.2.1)]; rfl)
         have tA : (va == ((s.pw f1).procs : Int)) = false := by simpa [RS.pw] using hA
         clear hE hA HQ3
         obtain ⟨r0, r1, r2, r3, _⟩ := F10.lr.rfour
         obtain ⟨k10, k11, k12, k13, k14, k15, k16, k17⟩ := F10.lw.cells
         obtain ⟨m0, m1, m2, m3⟩ := F10.c3
         have hrbe := F10.hrb
         have RI := F10.r.drew
         have hS : ∀ W W', Below W.heap.size W W' → (RfS W w.heap.size rb A N c q4 st10 (s.pw f1) s g) → (RfS W' w.heap.size rb A N c q4 st10 (s.pw f1) s g) := fun W W' hb h => RfS.below h hb
         have h6 := fun W (h : RfS W w.heap.size rb A N c q4 st10 (s.pw f1) s g) => RfS.put6 h hrbe (s.pw f1)
         have h7 := fun W (h : RfS W w.heap.size rb A N c q4 st10 (s.pw f1) s g) => RfS.put7 h hrbe s g
         have h67 := fun W h => h7 _ (h6 W h)
         have h76 := fun W h => h6 _ (h7 W h)
         unfold putV at h6 h67 h76
         unfold putM put4 at h7 h67 h76
         have HS := Lib.hid hS
         have H6 := Lib.hid h6
         have H7 := Lib.hid h7
         have H67 := Lib.hid h67
         have H76 := Lib.hid h76
         have HRD := Lib.hid RI
         clear hS h6 h7 h67 h76 RI F10
         refine wp_region_held_drew (S := fun W => RfS W w.heap.size rb A N c q4 st10 (s.pw f1) s g) (by kernel_rfl) ⟨r0, r1, r2, r3, k10, k11, k12, k13, k14, k15, k16, k17, m0, m1, m2, m3⟩ (fun hH => ?_)
         refine take_at2 0 161 (v := ?_) rfl rfl (by kernel_rfl) (fun _ _ _ h => h) (Or.inl ⟨by rfl, ?_⟩) hH ?_
         rotate_left
         ·intro W hW
          obtain ⟨r0, r1, r2, r3, k10, k11, k12, k13, k14, k15, k16, k17, m0, m1, m2, m3⟩ := hW
          go_simp
          try with_reducible rfl
         try simp only [Act.put, List.setIfInBounds_toArray, List.set_cons_zero, List.set_cons_succ]
         refine take_at2 1 162 (v := ?_) rfl rfl (by kernel_rfl) (fun _ _ _ h => h) (Or.inl ⟨by rfl, ?_⟩) hH ?_
         rotate_left
         ·intro W hW
          obtain ⟨r0, r1, r2, r3, k10, k11, k12, k13, k14, k15, k16, k17, m0, m1, m2, m3⟩ := hW
          go_simp
          try with_reducible rfl
         try simp only [Act.put, List.setIfInBounds_toArray, List.set_cons_zero, List.set_cons_succ]
         refine take_at2 2 163 (v := ?_) rfl rfl (by kernel_rfl) (fun _ _ _ h => h) (Or.inl ⟨by rfl, ?_⟩) hH ?_
         rotate_left
         ·intro W hW
          obtain ⟨r0, r1, r2, r3, k10, k11, k12, k13, k14, k15, k16, k17, m0, m1, m2, m3⟩ := hW
          go_simp
          try with_reducible rfl
         try simp only [Act.put, List.setIfInBounds_toArray, List.set_cons_zero, List.set_cons_succ]
         refine wpAnyH_ready (rs := [3]) (by kernel_rfl) (by simp) ?_
         refine AllReadyH.cons rfl (fun K hK => ?_) AllReadyH.nil
         go_simp
         refine (CE.out _ _).mono ?_; rintro e u7 ⟨rfl, hb7⟩
         have zz := HS.out _ _ hb7 ⟨r0, r1, r2, r3, k10, k11, k12, k13, k14, k15, k16, k17, m0, m1, m2, m3⟩
         refine hK.out _ _ zz (fun hH2 => ?_)
         clear hK K
         try simp only [Act.put, List.setIfInBounds_toArray, List.set_cons_zero, List.set_cons_succ]
         refine take_at2 4 165 (v := ?_) rfl rfl (by kernel_rfl) (fun _ _ _ h => h) (Or.inl ⟨by rfl, ?_⟩) hH2 ?_
         rotate_left
         ·intro W hW
          go_simp
          try with_reducible rfl
         try simp only [Act.put, List.setIfInBounds_toArray, List.set_cons_zero, List.set_cons_succ]
         refine take_at2 5 166 (v := ?_) rfl rfl (by kernel_rfl) (fun _ _ _ h => h) (Or.inl ⟨by rfl, ?_⟩) hH2 ?_
         rotate_left
         ·intro W hW
          go_simp
          try with_reducible rfl
         try simp only [Act.put, List.setIfInBounds_toArray, List.set_cons_zero, List.set_cons_succ]
         refine take_at2 6 167 (v := ?_) rfl rfl (by kernel_rfl) (fun _ _ _ h => h) (Or.inl ⟨by rfl, ?_⟩) hH2 ?_
         rotate_left
         ·intro W hW
          go_simp
          try with_reducible rfl
         try simp only [Act.put, List.setIfInBounds_toArray, List.set_cons_zero, List.set_cons_succ]
         refine take_at2 7 168 (v := ?_) rfl rfl (by kernel_rfl) (fun _ _ _ h => h) (Or.inl ⟨by rfl, ?_⟩) hH2 ?_
         rotate_left
         ·intro W hW
          go_simp
          try with_reducible rfl
         try simp only [Act.put, List.setIfInBounds_toArray, List.set_cons_zero, List.set_cons_succ]
         refine take_at2 8 169 (v := ?_) rfl rfl (by kernel_rfl) (fun _ _ _ h => h) (Or.inl ⟨by rfl, ?_⟩) hH2 ?_
         rotate_left
         ·intro W hW
          go_simp
          try with_reducible rfl
         try simp only [Act.put, List.setIfInBounds_toArray, List.set_cons_zero, List.set_cons_succ]
         refine take_at2 9 170 (v := ?_) rfl rfl (by kernel_rfl) (fun _ _ _ h => h) (Or.inl ⟨by rfl, ?_⟩) hH2 ?_
         rotate_left
         ·intro W hW
          go_simp
          try with_reducible rfl
         try simp only [Act.put, List.setIfInBounds_toArray, List.set_cons_zero, List.set_cons_succ]
         refine take_at2 10 171 (v := ?_) rfl rfl (by kernel_rfl) (fun _ _ _ h => h) (Or.inl ⟨by rfl, ?_⟩) hH2 ?_
         rotate_left
         ·intro W hW
          go_simp
          try with_reducible rfl
         try simp only [Act.put, List.setIfInBounds_toArray, List.set_cons_zero, List.set_cons_succ]
         refine take_at2 11 172 (v := ?_) rfl rfl (by kernel_rfl) (fun _ _ _ h => h) (Or.inl ⟨by rfl, ?_⟩) hH2 ?_
         rotate_left
         ·intro W hW
          go_simp
          try with_reducible rfl
         try simp only [Act.put, List.setIfInBounds_toArray, List.set_cons_zero, List.set_cons_succ]
         refine take_at2 12 173 rfl rfl (by kernel_rfl) (fun _ _ _ h => h) (Or.inr ⟨by rfl, rfl⟩) hH2 ?_
         try simp only [Act.put, List.setIfInBounds_toArray, List.set_cons_zero, List.set_cons_succ]
         refine take_at2 13 174 rfl rfl (by kernel_rfl) (fun _ _ _ h => h) (Or.inr ⟨by rfl, rfl⟩) hH2 ?_
         try simp only [Act.put, List.setIfInBounds_toArray, List.set_cons_zero, List.set_cons_succ]
         refine take_at2 14 175 rfl rfl (by kernel_rfl) (fun _ _ _ h => h) (Or.inr ⟨by rfl, rfl⟩) hH2 ?_
         try simp only [Act.put, List.setIfInBounds_toArray, List.set_cons_zero, List.set_cons_succ]
         refine take_at2 15 176 rfl rfl (by kernel_rfl) (fun _ _ _ h => h) (Or.inr ⟨by rfl, rfl⟩) hH2 ?_
         try simp only [Act.put, List.setIfInBounds_toArray, List.set_cons_zero, List.set_cons_succ]
         refine take_at2 16 177 (v := ?_) rfl rfl (by kernel_rfl) (fun _ _ _ h => h) (Or.inl ⟨by rfl, ?_⟩) hH2 ?_
         rotate_left
         ·intro W hW
          go_simp
          try with_reducible rfl
         try simp only [Act.put, List.setIfInBounds_toArray, List.set_cons_zero, List.set_cons_succ]
         have R7 := HRD.out.below hb7
         have HR7 := Lib.hid R7
         clear R7 hb7 hH r0 r1 r2 r3 k10 k11 k12 k13 k14 k15 k16 k17 m0 m1 m2 m3
         obtain ⟨fz0, fz1, fz2, fz3, fz4, fz5, fz6, fz7⟩ := HR7.out.l6.free8
         obtain ⟨o0, o1, o2, o3, o4, o5, o6, o7⟩ := HR7.out.l6.cells
         obtain ⟨n0, n1, n2, n3⟩ := HR7.out.c7
         obtain ⟨e0, e1, e2, e3⟩ := HR7.out.f7
         refine wpAnyH_ready (rs := [17]) (by kernel_rfl) (by simp) ?_
         refine AllReadyH.cons rfl (fun K hK => ?_) AllReadyH.nil
         go_simp
         refine hK.out _ _ (by with_reducible exact H6.out _ zz) (fun hH3 => ?_)
         clear hK K
         refine wpAnyH_ready (rs := [18]) (by kernel_rfl) (by simp) ?_
         refine AllReadyH.cons rfl (fun K hK => ?_) AllReadyH.nil
         go_simp
         refine hK.out _ _ (by with_reducible exact H67.out _ zz) (fun hH4 => ?_)
         clear hK K
         refine take_at2 19 8 (v := ?_) rfl rfl (by kernel_rfl) (fun _ _ _ h => h) (Or.inl ⟨by rfl, ?_⟩) hH4 ?_
         rotate_left
         ·intro W hW
          go_simp
          try with_reducible rfl
         try simp only [Act.put, List.setIfInBounds_toArray, List.set_cons_zero, List.set_cons_succ]
         refine take_at2 20 9 (v := ?_) rfl rfl (by kernel_rfl) (fun _ _ _ h => h) (Or.inl ⟨by rfl, ?_⟩) hH4 ?_
         rotate_left
         ·intro W hW
          go_simp
          try with_reducible rfl
         try simp only [Act.put, List.setIfInBounds_toArray, List.set_cons_zero, List.set_cons_succ]
         refine wpAnyH_done (by kernel_rfl) ?_ _
         clear hH2 hH3 hH4 zz

         go_wp2
         have RF := (HR7.out.put6 (s.pw f1)).put7 s g
         unfold putM put4 putV at RF
         refine ResL.ret (B := B) (w := w) (a6 := w.heap.size + 2) (a7 := w.heap.size + 3) (g0 := g) (s := s) (g := g) (y6 := (s.pw f1)) (s7 := s) (g7 := g) (v := .tuple #[.agg (s.pw f1).val, .agg (imV s g), .bool false, .bool true]) (by first | (with_reducible exact RF) | exact RF) ?_ rfl ?_
         ·rintro ⟨y0, y1, y2, y3, y4, y5, y6, y7⟩ ⟨z0, z1, z2, z3⟩
          simp [results, Tryz.results31, go_sem, y0, y1, y2, y3, y4, y5, y6, y7, z0, z1, z2, z3, PW.val, imV]
         ·intro RF2
          exact RF2.noF HQN.out
       ·have HQN : Hid (Q = none) := Lib.hid (by rw [HQ3.out, if_neg (fun h => hE h.1)]; rfl)
        have tE : (EE == 0) = false := by simpa using hE
        clear hE HQ3
        obtain ⟨r0, r1, r2, r3, _⟩ := F10.lr.rfour
        obtain ⟨k10, k11, k12, k13, k14, k15, k16, k17⟩ := F10.lw.cells
        obtain ⟨m0, m1, m2, m3⟩ := F10.c3
        have hrbe := F10.hrb
        have RI := F10.r.drew
        have hS : ∀ W W', Below W.heap.size W W' → (RfS W w.heap.size rb A N c q4 st10 (s.pw f1) s g) → (RfS W' w.heap.size rb A N c q4 st10 (s.pw f1) s g) := fun W W' hb h => RfS.below h hb
        have h6 := fun W (h : RfS W w.heap.size rb A N c q4 st10 (s.pw f1) s g) => RfS.put6 h hrbe (s.pw f1)
        have h7 := fun W (h : RfS W w.heap.size rb A N c q4 st10 (s.pw f1) s g) => RfS.put7 h hrbe s g
        have h67 := fun W h => h7 _ (h6 W h)
        have h76 := fun W h => h6 _ (h7 W h)
        unfold putV at h6 h67 h76
        unfold putM put4 at h7 h67 h76
        have HS := Lib.hid hS
        have H6 := Lib.hid h6
        have H7 := Lib.hid h7
        have H67 := Lib.hid h67
        have H76 := Lib.hid h76
        have HRD := Lib.hid RI
        clear hS h6 h7 h67 h76 RI F10
        refine wp_region_held_drew (S := fun W => RfS W w.heap.size rb A N c q4 st10 (s.pw f1) s g) (by kernel_rfl) ⟨r0, r1, r2, r3, k10, k11, k12, k13, k14, k15, k16, k17, m0, m1, m2, m3⟩ (fun hH => ?_)
        refine take_at2 0 161 (v := ?_) rfl rfl (by kernel_rfl) (fun _ _ _ h => h) (Or.inl ⟨by rfl, ?_⟩) hH ?_
        rotate_left
        ·intro W hW
         obtain ⟨r0, r1, r2, r3, k10, k11, k12, k13, k14, k15, k16, k17, m0, m1, m2, m3⟩ := hW
         go_simp
         try with_reducible rfl
        try simp only [Act.put, List.setIfInBounds_toArray, List.set_cons_zero, List.set_cons_succ]
        refine take_at2 1 162 (v := ?_) rfl rfl (by kernel_rfl) (fun _ _ _ h => h) (Or.inl ⟨by rfl, ?_⟩) hH ?_
        rotate_left
        ·intro W hW
         obtain ⟨r0, r1, r2, r3, k10, k11, k12, k13, k14, k15, k16, k17, m0, m1, m2, m3⟩ := hW
         go_simp
         try with_reducible rfl
        try simp only [Act.put, List.setIfInBounds_toArray, List.set_cons_zero, List.set_cons_succ]
        refine take_at2 2 163 (v := ?_) rfl rfl (by kernel_rfl) (fun _ _ _ h => h) (Or.inl ⟨by rfl, ?_⟩) hH ?_
        rotate_left
        ·intro W hW
         obtain ⟨r0, r1, r2, r3, k10, k11, k12, k13, k14, k15, k16, k17, m0, m1, m2, m3⟩ := hW
         go_simp
         try with_reducible rfl
        try simp only [Act.put, List.setIfInBounds_toArray, List.set_cons_zero, List.set_cons_succ]
        refine wpAnyH_ready (rs := [3]) (by kernel_rfl) (by simp) ?_
        refine AllReadyH.cons rfl (fun K hK => ?_) AllReadyH.nil
        go_simp
        refine (CE.out _ _).mono ?_; rintro e u7 ⟨rfl, hb7⟩
        have zz := HS.out _ _ hb7 ⟨r0, r1, r2, r3, k10, k11, k12, k13, k14, k15, k16, k17, m0, m1, m2, m3⟩
        refine hK.out _ _ zz (fun hH2 => ?_)
        clear hK K
        try simp only [Act.put, List.setIfInBounds_toArray, List.set_cons_zero, List.set_cons_succ]
        refine take_at2 4 165 (v := ?_) rfl rfl (by kernel_rfl) (fun _ _ _ h => h) (Or.inl ⟨by rfl, ?_⟩) hH2 ?_
        rotate_left
        ·intro W hW
         go_simp
         try with_reducible rfl
        try simp only [Act.put, List.setIfInBounds_toArray, List.set_cons_zero, List.set_cons_succ]
        refine take_at2 5 166 (v := ?_) rfl rfl (by kernel_rfl) (fun _ _ _ h => h) (Or.inl ⟨by rfl, ?_⟩) hH2 ?_
        rotate_left
        ·intro W hW
         go_simp
         try with_reducible rfl
        try simp only [Act.put, List.setIfInBounds_toArray, List.set_cons_zero, List.set_cons_succ]
        refine take_at2 6 167 rfl rfl (by kernel_rfl) (fun _ _ _ h => h) (Or.inr ⟨by rfl, rfl⟩) hH2 ?_
        try simp only [Act.put, List.setIfInBounds_toArray, List.set_cons_zero, List.set_cons_succ]
        refine take_at2 7 168 rfl rfl (by kernel_rfl) (fun _ _ _ h => h) (Or.inr ⟨by rfl, rfl⟩) hH2 ?_
        try simp only [Act.put, List.setIfInBounds_toArray, List.set_cons_zero, List.set_cons_succ]
        refine take_at2 8 169 rfl rfl (by kernel_rfl) (fun _ _ _ h => h) (Or.inr ⟨by rfl, rfl⟩) hH2 ?_
        try simp only [Act.put, List.setIfInBounds_toArray, List.set_cons_zero, List.set_cons_succ]
        refine take_at2 9 170 rfl rfl (by kernel_rfl) (fun _ _ _ h => h) (Or.inr ⟨by rfl, rfl⟩) hH2 ?_
        try simp only [Act.put, List.setIfInBounds_toArray, List.set_cons_zero, List.set_cons_succ]
        refine take_at2 10 171 (v := ?_) rfl rfl (by kernel_rfl) (fun _ _ _ h => h) (Or.inl ⟨by rfl, ?_⟩) hH2 ?_
        rotate_left
        ·intro W hW
         go_simp
         try with_reducible rfl
        try simp only [Act.put, List.setIfInBounds_toArray, List.set_cons_zero, List.set_cons_succ]
        refine take_at2 11 172 (v := ?_) rfl rfl (by kernel_rfl) (fun _ _ _ h => h) (Or.inl ⟨by rfl, ?_⟩) hH2 ?_
        rotate_left
        ·intro W hW
         go_simp
         try with_reducible rfl
        try simp only [Act.put, List.setIfInBounds_toArray, List.set_cons_zero, List.set_cons_succ]
        refine take_at2 12 173 rfl rfl (by kernel_rfl) (fun _ _ _ h => h) (Or.inr ⟨by rfl, rfl⟩) hH2 ?_
        try simp only [Act.put, List.setIfInBounds_toArray, List.set_cons_zero, List.set_cons_succ]
        refine take_at2 13 174 rfl rfl (by kernel_rfl) (fun _ _ _ h => h) (Or.inr ⟨by rfl, rfl⟩) hH2 ?_
        try simp only [Act.put, List.setIfInBounds_toArray, List.set_cons_zero, List.set_cons_succ]
        refine take_at2 14 175 rfl rfl (by kernel_rfl) (fun _ _ _ h => h) (Or.inr ⟨by rfl, rfl⟩) hH2 ?_
        try simp only [Act.put, List.setIfInBounds_toArray, List.set_cons_zero, List.set_cons_succ]
        refine take_at2 15 176 rfl rfl (by kernel_rfl) (fun _ _ _ h => h) (Or.inr ⟨by rfl, rfl⟩) hH2 ?_
        try simp only [Act.put, List.setIfInBounds_toArray, List.set_cons_zero, List.set_cons_succ]
        refine take_at2 16 177 (v := ?_) rfl rfl (by kernel_rfl) (fun _ _ _ h => h) (Or.inl ⟨by rfl, ?_⟩) hH2 ?_
        rotate_left
        ·intro W hW
         go_simp
         try with_reducible rfl
        try simp only [Act.put, List.setIfInBounds_toArray, List.set_cons_zero, List.set_cons_succ]
        have R7 := HRD.out.below hb7
        have HR7 := Lib.hid R7
        clear R7 hb7 hH r0 r1 r2 r3 k10 k11 k12 k13 k14 k15 k16 k17 m0 m1 m2 m3
        obtain ⟨fz0, fz1, fz2, fz3, fz4, fz5, fz6, fz7⟩ := HR7.out.l6.free8
        obtain ⟨o0, o1, o2, o3, o4, o5, o6, o7⟩ := HR7.out.l6.cells
        obtain ⟨n0, n1, n2, n3⟩ := HR7.out.c7
        obtain ⟨e0, e1, e2, e3⟩ := HR7.out.f7
        refine wpAnyH_ready (rs := [17]) (by kernel_rfl) (by simp) ?_
        refine AllReadyH.cons rfl (fun K hK => ?_) AllReadyH.nil
        go_simp
        refine hK.out _ _ (by with_reducible exact H6.out _ zz) (fun hH3 => ?_)
        clear hK K
        refine wpAnyH_ready (rs := [18]) (by kernel_rfl) (by simp) ?_
        refine AllReadyH.cons rfl (fun K hK => ?_) AllReadyH.nil
        go_simp
        refine hK.out _ _ (by with_reducible exact H67.out _ zz) (fun hH4 => ?_)
        clear hK K
        refine take_at2 19 8 (v := ?_) rfl rfl (by kernel_rfl) (fun _ _ _ h => h) (Or.inl ⟨by rfl, ?_⟩) hH4 ?_
        rotate_left
        ·intro W hW
         go_simp
         try with_reducible rfl
        try simp only [Act.put, List.setIfInBounds_toArray, List.set_cons_zero, List.set_cons_succ]
        refine take_at2 20 9 (v := ?_) rfl rfl (by kernel_rfl) (fun _ _ _ h => h) (Or.inl ⟨by rfl, ?_⟩) hH4 ?_
        rotate_left
        ·intro W hW
         go_simp
         try with_reducible rfl
        try simp only [Act.put, List.setIfInBounds_toArray, List.set_cons_zero, List.set_cons_succ]
        refine wpAnyH_done (by kernel_rfl) ?_ _
        clear hH2 hH3 hH4 zz

        go_wp2
        have RF := (HR7.out.put6 (s.pw f1)).put7 s g
        unfold putM put4 putV at RF
        refine ResL.ret (B := B) (w := w) (a6 := w.heap.size + 2) (a7 := w.heap.size + 3) (g0 := g) (s := s) (g := g) (y6 := (s.pw f1)) (s7 := s) (g7 := g) (v := .tuple #[.agg (s.pw f1).val, .agg (imV s g), .bool false, .bool true]) (by first | (with_reducible exact RF) | exact RF) ?_ rfl ?_
        ·rintro ⟨y0, y1, y2, y3, y4, y5, y6, y7⟩ ⟨z0, z1, z2, z3⟩
         simp [results, Tryz.results31, go_sem, y0, y1, y2, y3, y4, y5, y6, y7, z0, z1, z2, z3, PW.val, imV]
        ·intro RF2
         exact RF2.noF HQN.out
      ·have HQ3 : Hid (Q = none) := Lib.hid (by rw [HQ2.out]; unfold rfKind; rw [if_neg HK1.out, if_neg k2, if_neg k3, if_neg k4]; rfl)
       have t6 : (kI == 2) = false := by have := HKI.out; simp; omega
       have t7 : (kI == 3) = false := by have := HKI.out; simp; omega
       have t8 : (kI == 4) = false := by have := HKI.out; simp; omega
       clear k2 k3 k4 HQ2
       go_upto_region 33 with (fail)
       obtain ⟨k10, k11, k12, k13, k14, k15, k16, k17⟩ := F6.lw.cells
       obtain ⟨m0, m1, m2, m3⟩ := F6.c3
       have RI := F6.r
       obtain ⟨fz0, fz1, fz2, fz3, fz4, fz5, fz6, fz7⟩ := RI.l6.free8
       obtain ⟨o0, o1, o2, o3, o4, o5, o6, o7⟩ := RI.l6.cells
       obtain ⟨n0, n1, n2, n3⟩ := RI.c7
       obtain ⟨e0, e1, e2, e3⟩ := RI.f7

       have HRI := Lib.hid RI
       have HQN : Hid (Q = none) := Lib.hid HQ3.out
       clear RI F6
       go_region

       all_goals
        go_wp2
        have RF := ((HRI.out.put6 (s.pw f1)).put7 s g).drew
        unfold putM put4 putV at RF
        refine ResL.ret (B := B) (w := w) (a6 := w.heap.size + 2) (a7 := w.heap.size + 3) (g0 := g) (s := s) (g := g) (y6 := (s.pw f1)) (s7 := s) (g7 := g) (v := .tuple #[.agg (s.pw f1).val, .agg (imV s g), .bool false, .bool false]) (by first | (with_reducible exact RF) | exact RF) ?_ rfl ?_
        ·rintro ⟨y0, y1, y2, y3, y4, y5, y6, y7⟩ ⟨z0, z1, z2, z3⟩
         simp [results, Tryz.results31, go_sem, y0, y1, y2, y3, y4, y5, y6, y7, z0, z1, z2, z3, PW.val, imV]
        ·intro RF2
         exact RF2.noF HQN.out
  ·have HQ2 : Hid (Q = none) := Lib.hid (by rw [HQ.out, if_pos (.inr (.inr hkp))])
   by_cases a1 : kI = 1
   ·have a2 : ¬ s.frames = 0 := fun e => hkp ⟨fun _ => by omega, fun _ => hkk.2 a1⟩
    have t3 : (kI == 1) = true := by simp [a1]
    have t4 : ((s.frames : Int) == 0) = false := by simpa using a2
    clear HQ hkp hkk g2 he0 a1 a2
    subst hpf
    go_upto_region 5 with (fail)
    obtain ⟨k10, k11, k12, k13, k14, k15, k16, k17⟩ := F5.lw.cells
    obtain ⟨m0, m1, m2, m3⟩ := F5.c3
    have RI := F5.r
    obtain ⟨fz0, fz1, fz2, fz3, fz4, fz5, fz6, fz7⟩ := RI.l6.free8
    obtain ⟨o0, o1, o2, o3, o4, o5, o6, o7⟩ := RI.l6.cells
    obtain ⟨n0, n1, n2, n3⟩ := RI.c7
    obtain ⟨e0, e1, e2, e3⟩ := RI.f7

    have HRI := Lib.hid RI
    have HQN : Hid (Q = none) := Lib.hid HQ2.out
    clear RI F5
    go_region

    all_goals
     go_wp2
     have RF := ((HRI.out.put6 (s.pw s.frames)).put7 s g).drew
     unfold putM put4 putV at RF
     refine ResL.ret (B := B) (w := w) (a6 := w.heap.size + 2) (a7 := w.heap.size + 3) (g0 := g) (s := s) (g := g) (y6 := (s.pw s.frames)) (s7 := s) (g7 := g) (v := .tuple #[.agg (s.pw s.frames).val, .agg (imV s g), .bool false, .bool false]) (by first | (with_reducible exact RF) | exact RF) ?_ rfl ?_
     ·rintro ⟨y0, y1, y2, y3, y4, y5, y6, y7⟩ ⟨z0, z1, z2, z3⟩
      simp [results, Tryz.results31, go_sem, y0, y1, y2, y3, y4, y5, y6, y7, z0, z1, z2, z3, PW.val, imV]
     ·intro RF2
      exact RF2.noF HQN.out
   ·have a2 : s.frames = 0 := by
     rcases Classical.em (s.frames = 0) with e | e
     ·exact e
     ·exact absurd ⟨fun h => absurd (hkk.1 h) a1, fun h => absurd h (by omega)⟩ hkp
    have t3 : (kI == 1) = false := by simpa using a1
    have t4 : ((s.frames : Int) == 0) = true := by simp [a2]
    clear HQ hkp hkk g2 he0 a1 a2
    subst hpf
    go_upto_region 5 with (fail)
    obtain ⟨k10, k11, k12, k13, k14, k15, k16, k17⟩ := F5.lw.cells
    obtain ⟨m0, m1, m2, m3⟩ := F5.c3
    have RI := F5.r
    obtain ⟨fz0, fz1, fz2, fz3, fz4, fz5, fz6, fz7⟩ := RI.l6.free8
    obtain ⟨o0, o1, o2, o3, o4, o5, o6, o7⟩ := RI.l6.cells
    obtain ⟨n0, n1, n2, n3⟩ := RI.c7
    obtain ⟨e0, e1, e2, e3⟩ := RI.f7

    have HRI := Lib.hid RI
    have HQN : Hid (Q = none) := Lib.hid HQ2.out
    clear RI F5
    go_region

    all_goals
     go_wp2
     have RF := ((HRI.out.put6 (s.pw s.frames)).put7 s g).drew
     unfold putM put4 putV at RF
     refine ResL.ret (B := B) (w := w) (a6 := w.heap.size + 2) (a7 := w.heap.size + 3) (g0 := g) (s := s) (g := g) (y6 := (s.pw s.frames)) (s7 := s) (g7 := g) (v := .tuple #[.agg (s.pw s.frames).val, .agg (imV s g), .bool false, .bool false]) (by first | (with_reducible exact RF) | exact RF) ?_ rfl ?_
     ·rintro ⟨y0, y1, y2, y3, y4, y5, y6, y7⟩ ⟨z0, z1, z2, z3⟩
      simp [results, Tryz.results31, go_sem, y0, y1, y2, y3, y4, y5, y6, y7, z0, z1, z2, z3, PW.val, imV]
     ·intro RF2
      exact RF2.noF HQN.out
end Go.Proofs.YtnieminnnkbneaaGreat
