/- Walk of page.Read. Printed by gen_rr.py. -/
import Derived.Test.YtnieminnnkbneaaGreatRdc
import Derived.Deep.RegionHeld3
namespace Go.Proofs.YtnieminnnkbneaaGreat
open Go.RowKit

/-- How much more there is behind a frame. -/
def More1 (s s' : RS) : Prop := s'.frames = s.frames ∧ s'.procs.length ≤ s.procs.length + 1 ∧ s'.entries.length ≤ s.entries.length + 128
theorem pgHead_b {s s' : RS} {r r' : Rdr} (h : pgHead s r = some (s', r')) : More1 s s' := by
 unfold pgHead at h
 split at h
 ·cases h; exact ⟨rfl, Nat.le_succ _, Nat.le_add_right _ _⟩
 ·cases h
theorem pgProc_b {all : Nat} {s s' : RS} {r r' : Rdr} (h : pgProc all s r = some (s', r')) : More1 s s' := by
 unfold pgProc at h
 split at h
 ·cases h; exact ⟨rfl, by simp, Nat.le_add_right _ _⟩
 ·cases h
theorem pgEnts_b {all : Nat} : ∀ {n : Nat} {s s' : RS} {r r' : Rdr}, pgEnts all n s r = some (s', r') → s'.frames = s.frames ∧ s'.procs = s.procs ∧ s'.entries.length = s.entries.length + n
 | 0, s, s', r, r', h => by
  rw [pgEnts] at h
  cases h
  exact ⟨rfl, rfl, rfl⟩
 | n + 1, s, s', r, r', h => by
  rw [pgEnts_step] at h
  cases he : pgEnt all s r with
  | none => rw [he] at h; cases h
  | some q =>
   rw [he] at h
   obtain ⟨h1, h2, h3⟩ := pgEnts_b (n := n) (s := q.1) (r := q.2) h
   unfold pgEnt at he
   simp only at he
   split at he
   ·cases he
    refine ⟨h1, h2, ?_⟩
    rw [h3]
    simp only [List.length_append, List.length_cons, List.length_nil]
    omega
   ·cases he
theorem pgPage_b {all : Nat} {s s' : RS} {r r' : Rdr} (h : pgPage all s r = some (s', r')) : More1 s s' := by
 unfold pgPage at h
 split at h
 ·rename_i hc
  obtain ⟨h1, h2, h3⟩ := pgEnts_b h
  exact ⟨h1, by rw [h2]; omega, by rw [h3]; omega⟩
 ·cases h
theorem pgEnd_b {s s' : RS} {r r' : Rdr} (h : pgEnd s r = some (s', r')) : More1 s s' := by
 unfold pgEnd at h
 split at h
 ·cases h; exact ⟨rfl, Nat.le_succ _, Nat.le_add_right _ _⟩
 ·cases h

set_option maxRecDepth 100000 in
set_option maxHeartbeats 8000000 in
theorem pread_any (A : Option Addr) (n c : Nat) (xs : Bs) (w : World) (hr : Row w A (cellsB xs)) (hn : n = xs.length) (hnc : n ≤ c) (hlen : n ≤ 1000000000) :
  Calls Tryz.prog 11 #[.slice A n c] w (RdPost xs w) := by
 have hmf : ∀ (fn : Fn) (first cap : Array Value) (w : World), (Instr.makeFunc fn first cap).run Tryz.prog w = .ok (.func fn first cap) w := fun _ _ _ _ => rfl
 have HR0 := Lib.hid hr
 have HN := Lib.hid hn
 clear hr hn
 go_enter_defers Tryz.func11, Tryz.ntmps11
 go_wp2_with fail
 have l0 := Loc.new w imgZ 41
 have b0 := (Below.refl w.heap.size w).alloc (Nat.le_refl _) (.cells imgZ 41)
 have l0' := l0.alloc (.cells #[.int .i64 0] 25)
 have l1 := Loc.new (w.alloc (.cells imgZ 41)) #[.int .i64 0] 25
 have b1 := b0.alloc (by simp) (.cells #[.int .i64 0] 25)
 have l2 := Loc.new ((w.alloc (.cells imgZ 41)).alloc (.cells #[.int .i64 0] 25)) RM.zero.cells 74
 have b2 := b1.alloc (by simp; omega) (.cells RM.zero.cells 74)
 have l0'' := l0'.alloc (.cells RM.zero.cells 74)
 have l1'' := l1.alloc (.cells RM.zero.cells 74)
 rw [World.size_alloc] at l1''
 rw [World.size_alloc, World.size_alloc] at l2
 have hw2 : (((w.alloc (.cells #[.int .i64 0, .int .i64 0, .slice none 0 0, .slice none 0 0] 41)).alloc (.cells #[.int .i64 0] 25)).alloc (.cells #[.int .i64 0, .int .i64 0, .slice none 0 0, .slice none 0 0, .int .i64 0, .string ⟨#[]⟩, .string ⟨#[]⟩, .bool false] 74)) = ((w.alloc (.cells imgZ 41)).alloc (.cells #[.int .i64 0] 25)).alloc (.cells RM.zero.cells 74) := rfl
 rw [hw2]
 clear hw2 l0 l0' l1 b0 b1
 obtain ⟨w2, hw2⟩ : ∃ w2, w2 = ((w.alloc (.cells imgZ 41)).alloc (.cells #[.int .i64 0] 25)).alloc (.cells RM.zero.cells 74) := ⟨_, rfl⟩
 have hs2 : w2.heap.size = w.heap.size + 1 + 1 + 1 := by rw [hw2]; simp
 rw [← hw2] at l0'' l1'' l2 b2
 rw [← hw2]
 clear hw2
 obtain ⟨rb, hrb⟩ : ∃ rb, rb = w.heap.size + 1 + 1 := ⟨_, rfl⟩
 rw [← hrb] at l2 ⊢
 refine (kinds_any rb w2).mono ?_; rintro e w3 ⟨rfl, K3, b3⟩
 obtain ⟨km, hkm⟩ : ∃ km, km = w2.heap.size := ⟨_, rfl⟩
 rw [← hkm] at K3 ⊢
 have hne : km ≠ rb := by omega
 have P3 : PDr w w3 := PDr.below ⟨l0'', l1'', b2⟩ b3
 have HP0 := Lib.hid P3
 have HRB : Hid (w.heap.size + 2 ≤ rb) := Lib.hid (by omega)
 have HS3 : Hid (w.heap.size + 2 ≤ w3.heap.size) := Lib.hid (by have := b3.size; omega)
 have l3 := l2.below b3 (by omega)
 have D3 : RSt w3 w3 rb RM.zero := ⟨rfl, l3, World.ownsRow_nil _ _ _ _, (fun _ h => by cases h), sepP_nil, World.ownsRow_nil _ _ _ _, Keep.refl _ _ _, l3.lt⟩
 have HK3 := Lib.hid K3
 have HNE := Lib.hid hne
 have HROW : Hid (∀ W, Keep w3.heap.size (· = rb) w3 W → Row W A (cellsB xs)) := Lib.hid (by
  intro W hk
  by_cases hx : 0 < (cellsB xs).length
  ·obtain ⟨b, off, hA, hlt, _⟩ := HR0.out.at hx
   refine (HR0.out.of_below P3.2.2 (Nat.le_refl _)).keep hk (Nat.le_refl _) (fun a ha => ?_)
   rw [hA] at ha
   cases ha
   have := HRB.out
   show ¬ b = rb
   omega
  ·exact .inl (List.eq_nil_of_length_eq_zero (by omega)))
 have HREL : Hid (RdRel xs n 0 RM.zero) := Lib.hid (by rw [HN.out]; exact RdRel.start xs)
 clear l0'' l1'' l2 b2 hs2 hrb b3 P3 l3 K3 hne hkm
 go_wp2
 go_loopw [6] (fun i wr => ∃ (at_ : Nat) (m : RM), at_ ≤ n ∧ i = .int .i64 at_ ∧ RSt w3 wr rb m ∧ m.s.frames * 9 ≤ at_ ∧ m.pl.length ≤ m.s.frames ∧ m.s.entries.length ≤ 128 * m.s.frames ∧ Hid (RdRel xs n at_ m)) (fun i _ => n - (intOf i).toNat)
 case atStart => exact ⟨0, RM.zero, Nat.zero_le _, rfl, D3, Nat.le_refl _, Nat.le_refl _, Nat.zero_le _, HREL⟩
 case round =>
  obtain ⟨wi, rfl⟩ : ∃ wi, wi = wr := ⟨_, rfl⟩
  obtain ⟨at_, m, ha0, rfl, DI, hB1, hB2, hB3, HR⟩ := hrel
  clear D3 HREL
  have k7 := DI.c0.2.2.2.2.2.2.2
  cases hov : m.over with
  | true =>
   rw [hov] at k7
   by_cases han : at_ = n
   ·have HX : Hid (pageRead xs = (m.s, 0)) := Lib.hid (by rw [HR.out.1 hov, if_pos han])
    have te : ((at_ : Int) == (n : Int)) = true := by simp [han]
    clear hov han
    go_wp2_with fail
    refine (may_yes _).mono ?_; rintro e w4 ⟨rfl, rfl⟩
    obtain ⟨Lp, Lq, _⟩ := HP0.out.of DI.b HRB.out
    have p0 := Lp.cell 0; have p1 := Lp.cell 1; have p2 := Lp.cell 2; have p3 := Lp.cell 3; have q0 := Lq.cell 0
    unfold imgZ at p0 p1 p2 p3
    simp only [List.getElem?_toArray, List.getElem?_cons_zero, List.getElem?_cons_succ] at p0 p1 p2 p3 q0
    have fp0 := Lp.free 0; have fp1 := Lp.free 1; have fp2 := Lp.free 2; have fp3 := Lp.free 3; have fq0 := Lq.free 0
    obtain ⟨k0, k1, k2, k3, _, _, _, _⟩ := DI.c0
    have hlt := Lp.lt
    have hlq := Lq.lt
    clear k7 te Lp Lq
    go_wp2
    exact HP0.out.good HS3.out HRB.out DI _ rfl rfl rfl HX.out
   ·have HX : Hid (pageRead xs = (.zero, 3)) := Lib.hid (by rw [HR.out.1 hov, if_neg han])
    have te : ((at_ : Int) == (n : Int)) = false := by simp; omega
    clear hov han
    go_wp2_with fail
    refine (may_no _).mono ?_; rintro e w4 ⟨rfl, rfl⟩
    go_wp2
    exact (HP0.out.of DI.b HRB.out).panic _ rfl rfl rfl HX.out
  | false =>
   rw [hov] at k7
   have HMO := Lib.hid hov
   clear hov
   go_wp2_with fail
   refine (Nextr_any xs A n c at_ HN.out hnc hlen ha0 _ (HROW.out _ DI.b)).mono ?_; rintro e w4 ⟨⟨v, rfl, hv⟩, b4⟩
   have D4 := DI.below b4
   have hsz4 := DI.b.size
   clear k7 DI
   obtain ⟨E, hE⟩ : ∃ E, E = nextE xs at_ := ⟨_, rfl⟩
   unfold NextR at hv
   rw [← hE] at hv
   have HE := Lib.hid hE
   clear hE
   rcases hv with ⟨he, rfl⟩ | ⟨he, hk0, hk1, hk2, g, cc, rfl, own⟩
   ·by_cases h12 : E = 12
    ·have HX : Hid (pageRead xs = (.zero, 2)) := Lib.hid (HR.out.short HMO.out ha0 (by rw [← HE.out]; exact h12))
     subst h12
     clear he
     go_wp2
     exact (HP0.out.of D4.b HRB.out).panic _ rfl rfl rfl HX.out
    ·have HX : Hid (pageRead xs = (.zero, 13)) := Lib.hid (HR.out.torn HMO.out ha0 (by rw [← HE.out]; exact h12) (by rw [← HE.out]; exact he))
     have t1 : ((E : Int) == 0) = false := by simp; omega
     have t2 : ((E : Int) == 12) = false := by simp; omega
     clear he h12
     go_wp2
     exact (HP0.out.of D4.b HRB.out).panic _ rfl rfl rfl HX.out
   ·subst he
    have HE0 : Hid (nextE xs at_ = 0) := Lib.hid HE.out.symm
    obtain ⟨wd, hwd⟩ : ∃ wd, wd = wordAt xs at_ := ⟨_, rfl⟩
    have hbl := bodyAt_length xs at_ (by rw [← HN.out]; exact hk2)
    rw [← hwd] at hk0 hk1 hk2 own hbl
    rw [← hwd]
    have HWD := Lib.hid hwd
    clear hwd
    obtain ⟨body, hbody⟩ : ∃ body, body = bodyAt xs at_ := ⟨_, rfl⟩
    rw [← hbody] at hbl own
    have HBD := Lib.hid hbody
    have HBL := Lib.hid hbl
    clear hbody hbl
    obtain ⟨k, r1, h1⟩ : ∃ k r1, (Rdr.new body).byte = (k, r1) := ⟨_, _, rfl⟩
    obtain ⟨num, r2, h2⟩ : ∃ num r2, r1.number = (num, r2) := ⟨_, _, rfl⟩
    have hfr : pgFrame m.s (bodyAt xs at_) = if num = m.s.frames then pgShut (decide (k = 4)) (pgKind k wd m.s r2) else none := by
     unfold pgFrame
     rw [← HBD.out, h1]
     simp only [h2, HBL.out]
    have n7 := fun W hW => rbyte_any 0 (Rdr.new body) W hW
    have hbt := rbyte_lt (Rdr.new body)
    have N7 := Lib.hid (fun ob W (hW : Rd W ob (Rdr.new body)) => rbyte_any ob (Rdr.new body) W hW)
    have N8 := fun ob => Lib.hid (fun W (hW : Rd W ob r1) => rnumber_any ob r1 W hW)
    rw [h1] at N7 hbt
    rw [h2] at N8
    simp only at N7 N8 hbt
    have HFR := Lib.hid hfr
    have hd4 := D4.b.size
    clear h1 h2 hfr n7
    go_wp2_with fail
    refine (read_any (some ⟨g, 0, none⟩) wd cc body _ (Row.of_owns own) HBL.out.symm (fun h => by cases h) (by omega)).mono ?_; rintro e w5 ⟨ob, rfl, hob, R5, b5⟩
    have D5 := D4.below b5
    have ho : w3.heap.size ≤ ob := by omega
    have N8 := N8 ob
    clear own D4 b5 b4 hsz4 hd4 hob
    obtain ⟨f, hf⟩ : ∃ f, f = m.s.frames := ⟨_, rfl⟩
    rw [← hf] at hB1 hB2 hB3
    have HFF := Lib.hid hf
    clear hf
    have hk' : k < 256 := hbt
    rcases (by omega : k = 1 ∨ k = 2 ∨ k = 3 ∨ k = 4 ∨ ¬ (k = 1 ∨ k = 2 ∨ k = 3 ∨ k = 4)) with rfl | rfl | rfl | rfl | hko
    ·have n7 := N7.out ob
     rw [show ((1 : Nat) : Int) = 1 from rfl] at n7
     go_wp2_with (first | (go_at_call 26; refine (n7 _ R5).mono ?_; rintro e w7 ⟨rfl, S7⟩; have D7a := D5.rd R5 S7 ho; have K7 := HK3.out.keep D7a.b HNE.out; have hlk := run_lookup8 (P := Tryz.prog) Tryz.underlying75 Tryz.underlying5 K7 1 (by decide) (by decide) .nilFunc (zeroFn _) (some (0, kfn rb 52)) rfl; simp only [kfn, Option.isSome] at hlk))
     clear n7 N7
     have D7 : RSt w3 w7 rb m ∧ Rd w7 ob r1 ∧ True := ⟨D7a, S7.1, trivial⟩
     have k4 := D7a.c0.2.2.2.2.1
     rw [← HFF.out] at k4
     clear D5 R5 S7 D7a K7
     by_cases hnum : num = (f : Int)
     ·have hfr := HFR.out
      rw [if_pos (by rw [← HFF.out]; exact hnum)] at hfr
      have HFR2 := Lib.hid hfr
      have t8 : (num == (f : Int)) = true := by simp [hnum]
      clear hfr HFR hnum
      refine wp_region_noPanic ?_
      refine wp_region_held_drew (S := fun W => W.cell? ⟨rb, 4, none⟩ = some (.int .i64 f)) (by kernel_rfl) k4 (fun hH => ?_)
      refine take_at1 0 46 (v := .bool true) rfl rfl (by kernel_rfl) (by kernel_rfl) (by kernel_rfl) (fun _ _ _ h => h) (Or.inl ⟨by rfl, ?_⟩) hH ?_
      ·intro W hW
       go_simp
       try with_reducible rfl
      try simp only [Act.put, List.setIfInBounds_toArray, List.set_cons_zero, List.set_cons_succ]
      refine take_at1 1 47 (v := .bool true) rfl rfl (by kernel_rfl) (by kernel_rfl) (by kernel_rfl) (fun _ _ _ h => h) (Or.inl ⟨by rfl, ?_⟩) hH ?_
      ·intro W hW
       go_simp
       try with_reducible rfl
      try simp only [Act.put, List.setIfInBounds_toArray, List.set_cons_zero, List.set_cons_succ]
      refine take_at1 2 48 (v := ?_) rfl rfl (by kernel_rfl) (by kernel_rfl) (by kernel_rfl) (fun _ _ _ h => h) (Or.inl ⟨by rfl, ?_⟩) hH ?_
      rotate_left
      ·intro W hW
       go_simp
       try with_reducible rfl
      try simp only [Act.put, List.setIfInBounds_toArray, List.set_cons_zero, List.set_cons_succ]
      refine take_at1 4 50 (v := ?_) rfl rfl (by kernel_rfl) (by kernel_rfl) (by kernel_rfl) (fun _ _ _ h => h) (Or.inl ⟨by rfl, ?_⟩) hH ?_
      rotate_left
      ·intro W hW
       go_simp
       try with_reducible rfl
      try simp only [Act.put, List.setIfInBounds_toArray, List.set_cons_zero, List.set_cons_succ]
      refine take_at1 5 51 (v := ?_) rfl rfl (by kernel_rfl) (by kernel_rfl) (by kernel_rfl) (fun _ _ _ h => h) (Or.inl ⟨by rfl, ?_⟩) hH ?_
      rotate_left
      ·intro W hW
       go_simp
       try with_reducible rfl
      try simp only [Act.put, List.setIfInBounds_toArray, List.set_cons_zero, List.set_cons_succ]
      refine take_at1 6 52 (v := ?_) rfl rfl (by kernel_rfl) (by kernel_rfl) (by kernel_rfl) (fun _ _ _ h => h) (Or.inl ⟨by rfl, ?_⟩) hH ?_
      rotate_left
      ·intro W hW
       go_simp
       try with_reducible rfl
      try simp only [Act.put, List.setIfInBounds_toArray, List.set_cons_zero, List.set_cons_succ]
      refine take_at1 7 53 (v := ?_) rfl rfl (by kernel_rfl) (by kernel_rfl) (by kernel_rfl) (fun _ _ _ h => h) (Or.inl ⟨by rfl, ?_⟩) hH ?_
      rotate_left
      ·intro W hW
       go_simp
       try with_reducible rfl
      try simp only [Act.put, List.setIfInBounds_toArray, List.set_cons_zero, List.set_cons_succ]
      refine wpAnyH_ready (rs := [3]) (by kernel_rfl) (by simp) ?_
      refine AllReadyH.cons rfl (fun K hK => ?_) AllReadyH.nil
      go_simp
      refine (N8.out _ D7.2.1.drew).mono ?_; rintro e w8 ⟨rfl, S8⟩
      have D8 := D7.1.drew.rd D7.2.1.drew S8 ho
      have R8 := S8.1
      have k4b := D8.c0.2.2.2.2.1
      rw [← HFF.out] at k4b
      refine hK.out _ _ k4b (fun hH2 => ?_)
      clear hK K S8
      try simp only [Act.put, List.setIfInBounds_toArray, List.set_cons_zero, List.set_cons_succ]
      refine take_at1 8 54 (v := .bool true) rfl rfl (by kernel_rfl) (by kernel_rfl) (by kernel_rfl) (fun _ _ _ h => h) (Or.inl ⟨by rfl, ?_⟩) hH2 ?_
      ·intro W hW
       go_simp
       try with_reducible rfl
      try simp only [Act.put, List.setIfInBounds_toArray, List.set_cons_zero, List.set_cons_succ]
      refine take_at1 9 55 (v := .bool true) rfl rfl (by kernel_rfl) (by kernel_rfl) (by kernel_rfl) (fun _ _ _ h => h) (Or.inl ⟨by rfl, ?_⟩) hH2 ?_
      ·intro W hW
       go_simp
       try with_reducible rfl
      try simp only [Act.put, List.setIfInBounds_toArray, List.set_cons_zero, List.set_cons_succ]
      refine wpAnyH_ready (rs := [10]) (by kernel_rfl) (by simp) ?_
      refine AllReadyH.cons rfl (fun K hK => ?_) AllReadyH.nil
      go_simp
      refine (may_yes _).mono ?_; rintro e w9 ⟨rfl, rfl⟩
      refine hK.out _ _ k4b (fun hH3 => ?_)
      clear hK K
      try simp only [Act.put, List.setIfInBounds_toArray, List.set_cons_zero, List.set_cons_succ]
      refine wpAnyH_done (by kernel_rfl) ?_ _
      refine NoPanic.normal ?_
      cases hpk : pgHead m.s r2 with
      | none =>
       have HX : Hid (pageRead xs = (.zero, 3)) := Lib.hid (HR.out.none HMO.out ha0 HE0.out (by rw [HFR2.out]; unfold pgKind; rw [if_pos rfl, hpk]; rfl))
       have hcall := fun W h1 h2 => ((fun W h1 h2 => rhead_any w3 rb ob m r2 wd W h1 h2 ho HMO.out) W h1 h2).mono (fun e w' h => h.2 hpk)
       have HCALL := Lib.hid hcall
       clear hcall hpk
       go_wp2_with fail
       refine (HCALL.out _ D8 R8).mono ?_; rintro e w10 ⟨rfl, b10⟩
       go_wp2
       exact (HP0.out.of b10 HRB.out).panic _ rfl rfl rfl HX.out
      | some qq =>
       obtain ⟨s', r'⟩ := qq
       have hcall := fun W h1 h2 => ((fun W h1 h2 => rhead_any w3 rb ob m r2 wd W h1 h2 ho HMO.out) W h1 h2).mono (fun e w' h => h.1 s' r' hpk)
       have hfr := HFR2.out
       unfold pgKind at hfr
       rw [if_pos rfl, hpk] at hfr
       unfold pgShut at hfr
       simp only at hfr
       have hb := pgHead_b hpk
       have HFR3 := Lib.hid hfr
       have HCALL := Lib.hid hcall
       have HB := Lib.hid hb
       clear hcall hpk hfr HFR2 hb
       go_wp2_with fail
       refine (HCALL.out _ D8 R8).mono ?_; rintro e w10 ⟨rfl, ⟨m2, hs2, ho2, D10⟩, R10⟩
       have HS2 := Lib.hid hs2
       have HO2 := Lib.hid ho2
       clear D8 R8 HCALL hs2 ho2 k4b hH3
       go_wp2_with fail
       refine (rend_any ob r' _ R10).mono ?_; rintro e w11 ⟨rfl, S11⟩
       have D11 := D10.rd R10 S11 ho
       clear D10 R10 S11
       by_cases hen : r'.end_ = 0
       ·have hfr := HFR3.out
        rw [if_pos hen] at hfr
        have HFR4 := Lib.hid hfr
        have hte : (r'.end_ == 0) = true := by simp [hen]
        clear hfr HFR3 hen
        go_wp2_with fail
        refine (may_yes _).mono ?_; rintro e w12 ⟨rfl, rfl⟩
        have k4c := D11.c0.2.2.2.2.1
        have f4c := D11.l.free 4
        have D12 := D11.put (m' := { m2 with s := { m2.s with frames := m2.s.frames + 1 } }) 4 (.int .i64 (m2.s.frames + 1 : Nat)) rfl rfl rfl rfl rfl rfl rfl rfl
        have hfl : (m2.s.frames : Int) < 1000000000 := by have e1 := congrArg RS.frames HS2.out; have e2 := HB.out.1; have e3 := HFF.out; omega
        go_wp2
        go_roundw
        case rel =>
         refine ⟨at_ + 8 + wd, _, hk2, by go_num, D12, ?_, ?_, ?_, Lib.hid ?_⟩
         ·have e1 := congrArg RS.frames HS2.out; have e2 := HB.out.1; have e3 := HFF.out
          show (m2.s.frames + 1) * 9 ≤ _
          omega
         ·have e1 := congrArg RS.frames HS2.out; have e2 := HB.out.1; have e3 := HFF.out
          have e4 := congrArg List.length D11.hp
          have e5 := congrArg List.length D7.1.hp
          have e6 := HB.out.2.1
          have e7 := congrArg RS.procs HS2.out
          rw [List.length_map] at e4 e5
          rw [← e7] at e6
          show m2.pl.length ≤ m2.s.frames + 1
          omega
         ·have e1 := congrArg RS.frames HS2.out; have e2 := HB.out.1; have e3 := HFF.out
          have e6 := HB.out.2.2
          have e7 := congrArg RS.entries HS2.out
          rw [← e7] at e6
          show m2.s.entries.length ≤ 128 * (m2.s.frames + 1)
          omega
         ·have h := HR.out.some (m' := { m2 with s := { m2.s with frames := m2.s.frames + 1 } }) HN.out HMO.out ha0 HE0.out (by rw [HFR4.out, ← HS2.out]; show _ = some (_, m2.over); rw [HO2.out]; rfl)
          rw [← HWD.out] at h
          exact h
        case measure => simp [intOf]; omega
       ·have hfr := HFR3.out
        rw [if_neg hen] at hfr
        have HX : Hid (pageRead xs = (.zero, 3)) := Lib.hid (HR.out.none HMO.out ha0 HE0.out hfr)
        have hte : (r'.end_ == 0) = false := by simpa using hen
        clear hfr HFR3 hen
        go_wp2_with fail
        refine (may_no _).mono ?_; rintro e w12 ⟨rfl, rfl⟩
        go_wp2
        exact (HP0.out.of D11.b HRB.out).panic _ rfl rfl rfl HX.out
     ·have hfr := HFR.out
      rw [if_neg (by rw [← HFF.out]; exact hnum)] at hfr
      have HX : Hid (pageRead xs = (.zero, 3)) := Lib.hid (HR.out.none HMO.out ha0 HE0.out hfr)
      have t8 : (num == (f : Int)) = false := by simpa using hnum
      clear hfr HFR hnum
      refine Code.wp_mono (fun ex a W h => ?_) (?_ : Code.wp _ _ (PPan w 3) _ _)
      ·cases ex <;> first | exact (h : False).elim | skip
       obtain ⟨rfl, k2, k3, k4', hD⟩ := h
       exact hD.panic _ k2 k3 k4' HX.out
      ·refine wp_region_held_drew (S := fun W => W.cell? ⟨rb, 4, none⟩ = some (.int .i64 f)) (by kernel_rfl) k4 (fun hH => ?_)
       refine take_at1 0 46 (v := .bool true) rfl rfl (by kernel_rfl) (by kernel_rfl) (by kernel_rfl) (PPan.put 46 (by decide) (by decide) _) (Or.inl ⟨by rfl, ?_⟩) hH ?_
       ·intro W hW
        go_simp
        try with_reducible rfl
       try simp only [Act.put, List.setIfInBounds_toArray, List.set_cons_zero, List.set_cons_succ]
       refine take_at1 1 47 (v := .bool true) rfl rfl (by kernel_rfl) (by kernel_rfl) (by kernel_rfl) (PPan.put 47 (by decide) (by decide) _) (Or.inl ⟨by rfl, ?_⟩) hH ?_
       ·intro W hW
        go_simp
        try with_reducible rfl
       try simp only [Act.put, List.setIfInBounds_toArray, List.set_cons_zero, List.set_cons_succ]
       refine take_at1 2 48 (v := ?_) rfl rfl (by kernel_rfl) (by kernel_rfl) (by kernel_rfl) (PPan.put 48 (by decide) (by decide) _) (Or.inl ⟨by rfl, ?_⟩) hH ?_
       rotate_left
       ·intro W hW
        go_simp
        try with_reducible rfl
       try simp only [Act.put, List.setIfInBounds_toArray, List.set_cons_zero, List.set_cons_succ]
       refine take_at1 4 50 (v := ?_) rfl rfl (by kernel_rfl) (by kernel_rfl) (by kernel_rfl) (PPan.put 50 (by decide) (by decide) _) (Or.inl ⟨by rfl, ?_⟩) hH ?_
       rotate_left
       ·intro W hW
        go_simp
        try with_reducible rfl
       try simp only [Act.put, List.setIfInBounds_toArray, List.set_cons_zero, List.set_cons_succ]
       refine take_at1 5 51 (v := ?_) rfl rfl (by kernel_rfl) (by kernel_rfl) (by kernel_rfl) (PPan.put 51 (by decide) (by decide) _) (Or.inl ⟨by rfl, ?_⟩) hH ?_
       rotate_left
       ·intro W hW
        go_simp
        try with_reducible rfl
       try simp only [Act.put, List.setIfInBounds_toArray, List.set_cons_zero, List.set_cons_succ]
       refine take_at1 6 52 (v := ?_) rfl rfl (by kernel_rfl) (by kernel_rfl) (by kernel_rfl) (PPan.put 52 (by decide) (by decide) _) (Or.inl ⟨by rfl, ?_⟩) hH ?_
       rotate_left
       ·intro W hW
        go_simp
        try with_reducible rfl
       try simp only [Act.put, List.setIfInBounds_toArray, List.set_cons_zero, List.set_cons_succ]
       refine take_at1 7 53 (v := ?_) rfl rfl (by kernel_rfl) (by kernel_rfl) (by kernel_rfl) (PPan.put 53 (by decide) (by decide) _) (Or.inl ⟨by rfl, ?_⟩) hH ?_
       rotate_left
       ·intro W hW
        go_simp
        try with_reducible rfl
       try simp only [Act.put, List.setIfInBounds_toArray, List.set_cons_zero, List.set_cons_succ]
       refine wpAnyH_ready (rs := [3]) (by kernel_rfl) (by simp) ?_
       refine AllReadyH.cons rfl (fun K hK => ?_) AllReadyH.nil
       go_simp
       refine (N8.out _ D7.2.1.drew).mono ?_; rintro e w8 ⟨rfl, S8⟩
       have D8 := D7.1.drew.rd D7.2.1.drew S8 ho
       have R8 := S8.1
       have k4b := D8.c0.2.2.2.2.1
       rw [← HFF.out] at k4b
       refine hK.out _ _ k4b (fun hH2 => ?_)
       clear hK K S8
       try simp only [Act.put, List.setIfInBounds_toArray, List.set_cons_zero, List.set_cons_succ]
       refine take_at1 8 54 (v := .bool false) rfl rfl (by kernel_rfl) (by kernel_rfl) (by kernel_rfl) (PPan.put 54 (by decide) (by decide) _) (Or.inl ⟨by rfl, ?_⟩) hH2 ?_
       ·intro W hW
        go_simp
        try with_reducible rfl
       try simp only [Act.put, List.setIfInBounds_toArray, List.set_cons_zero, List.set_cons_succ]
       refine take_at1 9 55 (v := .bool false) rfl rfl (by kernel_rfl) (by kernel_rfl) (by kernel_rfl) (PPan.put 55 (by decide) (by decide) _) (Or.inl ⟨by rfl, ?_⟩) hH2 ?_
       ·intro W hW
        go_simp
        try with_reducible rfl
       try simp only [Act.put, List.setIfInBounds_toArray, List.set_cons_zero, List.set_cons_succ]
       refine wpAnyH_ready (rs := [10]) (by kernel_rfl) (by simp) ?_
       refine AllReadyH.cons rfl (fun K hK => ?_) AllReadyH.nil
       go_simp
       refine (may_no _).mono ?_; rintro e w9 ⟨rfl, rfl⟩
       exact ⟨rfl, rfl, rfl, rfl, HP0.out.of D8.b HRB.out⟩
    ·have n7 := N7.out ob
     rw [show ((2 : Nat) : Int) = 2 from rfl] at n7
     go_wp2_with (first | (go_at_call 26; refine (n7 _ R5).mono ?_; rintro e w7 ⟨rfl, S7⟩; have D7a := D5.rd R5 S7 ho; have K7 := HK3.out.keep D7a.b HNE.out; have hlk := run_lookup8 (P := Tryz.prog) Tryz.underlying75 Tryz.underlying5 K7 2 (by decide) (by decide) .nilFunc (zeroFn _) (some (1, kfn rb 53)) rfl; simp only [kfn, Option.isSome] at hlk))
     clear n7 N7
     have D7 : RSt w3 w7 rb m ∧ Rd w7 ob r1 ∧ True := ⟨D7a, S7.1, trivial⟩
     have k4 := D7a.c0.2.2.2.2.1
     rw [← HFF.out] at k4
     clear D5 R5 S7 D7a K7
     by_cases hnum : num = (f : Int)
     ·have hfr := HFR.out
      rw [if_pos (by rw [← HFF.out]; exact hnum)] at hfr
      have HFR2 := Lib.hid hfr
      have t8 : (num == (f : Int)) = true := by simp [hnum]
      clear hfr HFR hnum
      refine wp_region_noPanic ?_
      refine wp_region_held_drew (S := fun W => W.cell? ⟨rb, 4, none⟩ = some (.int .i64 f)) (by kernel_rfl) k4 (fun hH => ?_)
      refine take_at1 0 46 (v := .bool true) rfl rfl (by kernel_rfl) (by kernel_rfl) (by kernel_rfl) (fun _ _ _ h => h) (Or.inl ⟨by rfl, ?_⟩) hH ?_
      ·intro W hW
       go_simp
       try with_reducible rfl
      try simp only [Act.put, List.setIfInBounds_toArray, List.set_cons_zero, List.set_cons_succ]
      refine take_at1 1 47 (v := .bool true) rfl rfl (by kernel_rfl) (by kernel_rfl) (by kernel_rfl) (fun _ _ _ h => h) (Or.inl ⟨by rfl, ?_⟩) hH ?_
      ·intro W hW
       go_simp
       try with_reducible rfl
      try simp only [Act.put, List.setIfInBounds_toArray, List.set_cons_zero, List.set_cons_succ]
      refine take_at1 2 48 (v := ?_) rfl rfl (by kernel_rfl) (by kernel_rfl) (by kernel_rfl) (fun _ _ _ h => h) (Or.inl ⟨by rfl, ?_⟩) hH ?_
      rotate_left
      ·intro W hW
       go_simp
       try with_reducible rfl
      try simp only [Act.put, List.setIfInBounds_toArray, List.set_cons_zero, List.set_cons_succ]
      refine take_at1 4 50 (v := ?_) rfl rfl (by kernel_rfl) (by kernel_rfl) (by kernel_rfl) (fun _ _ _ h => h) (Or.inl ⟨by rfl, ?_⟩) hH ?_
      rotate_left
      ·intro W hW
       go_simp
       try with_reducible rfl
      try simp only [Act.put, List.setIfInBounds_toArray, List.set_cons_zero, List.set_cons_succ]
      refine take_at1 5 51 (v := ?_) rfl rfl (by kernel_rfl) (by kernel_rfl) (by kernel_rfl) (fun _ _ _ h => h) (Or.inl ⟨by rfl, ?_⟩) hH ?_
      rotate_left
      ·intro W hW
       go_simp
       try with_reducible rfl
      try simp only [Act.put, List.setIfInBounds_toArray, List.set_cons_zero, List.set_cons_succ]
      refine take_at1 6 52 (v := ?_) rfl rfl (by kernel_rfl) (by kernel_rfl) (by kernel_rfl) (fun _ _ _ h => h) (Or.inl ⟨by rfl, ?_⟩) hH ?_
      rotate_left
      ·intro W hW
       go_simp
       try with_reducible rfl
      try simp only [Act.put, List.setIfInBounds_toArray, List.set_cons_zero, List.set_cons_succ]
      refine take_at1 7 53 (v := ?_) rfl rfl (by kernel_rfl) (by kernel_rfl) (by kernel_rfl) (fun _ _ _ h => h) (Or.inl ⟨by rfl, ?_⟩) hH ?_
      rotate_left
      ·intro W hW
       go_simp
       try with_reducible rfl
      try simp only [Act.put, List.setIfInBounds_toArray, List.set_cons_zero, List.set_cons_succ]
      refine wpAnyH_ready (rs := [3]) (by kernel_rfl) (by simp) ?_
      refine AllReadyH.cons rfl (fun K hK => ?_) AllReadyH.nil
      go_simp
      refine (N8.out _ D7.2.1.drew).mono ?_; rintro e w8 ⟨rfl, S8⟩
      have D8 := D7.1.drew.rd D7.2.1.drew S8 ho
      have R8 := S8.1
      have k4b := D8.c0.2.2.2.2.1
      rw [← HFF.out] at k4b
      refine hK.out _ _ k4b (fun hH2 => ?_)
      clear hK K S8
      try simp only [Act.put, List.setIfInBounds_toArray, List.set_cons_zero, List.set_cons_succ]
      refine take_at1 8 54 (v := .bool true) rfl rfl (by kernel_rfl) (by kernel_rfl) (by kernel_rfl) (fun _ _ _ h => h) (Or.inl ⟨by rfl, ?_⟩) hH2 ?_
      ·intro W hW
       go_simp
       try with_reducible rfl
      try simp only [Act.put, List.setIfInBounds_toArray, List.set_cons_zero, List.set_cons_succ]
      refine take_at1 9 55 (v := .bool true) rfl rfl (by kernel_rfl) (by kernel_rfl) (by kernel_rfl) (fun _ _ _ h => h) (Or.inl ⟨by rfl, ?_⟩) hH2 ?_
      ·intro W hW
       go_simp
       try with_reducible rfl
      try simp only [Act.put, List.setIfInBounds_toArray, List.set_cons_zero, List.set_cons_succ]
      refine wpAnyH_ready (rs := [10]) (by kernel_rfl) (by simp) ?_
      refine AllReadyH.cons rfl (fun K hK => ?_) AllReadyH.nil
      go_simp
      refine (may_yes _).mono ?_; rintro e w9 ⟨rfl, rfl⟩
      refine hK.out _ _ k4b (fun hH3 => ?_)
      clear hK K
      try simp only [Act.put, List.setIfInBounds_toArray, List.set_cons_zero, List.set_cons_succ]
      refine wpAnyH_done (by kernel_rfl) ?_ _
      refine NoPanic.normal ?_
      cases hpk : pgProc wd m.s r2 with
      | none =>
       have HX : Hid (pageRead xs = (.zero, 3)) := Lib.hid (HR.out.none HMO.out ha0 HE0.out (by rw [HFR2.out]; unfold pgKind; rw [if_neg (by decide), if_pos rfl, hpk]; rfl))
       have hcall := fun W h1 h2 => ((fun W h1 h2 => rproc_any w3 rb ob m r2 wd W h1 h2 ho HMO.out (by omega) (by omega)) W h1 h2).mono (fun e w' h => h.2 hpk)
       have HCALL := Lib.hid hcall
       clear hcall hpk
       go_wp2_with fail
       refine (HCALL.out _ D8 R8).mono ?_; rintro e w10 ⟨rfl, b10⟩
       go_wp2
       exact (HP0.out.of b10 HRB.out).panic _ rfl rfl rfl HX.out
      | some qq =>
       obtain ⟨s', r'⟩ := qq
       have hcall := fun W h1 h2 => ((fun W h1 h2 => rproc_any w3 rb ob m r2 wd W h1 h2 ho HMO.out (by omega) (by omega)) W h1 h2).mono (fun e w' h => h.1 s' r' hpk)
       have hfr := HFR2.out
       unfold pgKind at hfr
       rw [if_neg (by decide), if_pos rfl, hpk] at hfr
       unfold pgShut at hfr
       simp only at hfr
       have hb := pgProc_b hpk
       have HFR3 := Lib.hid hfr
       have HCALL := Lib.hid hcall
       have HB := Lib.hid hb
       clear hcall hpk hfr HFR2 hb
       go_wp2_with fail
       refine (HCALL.out _ D8 R8).mono ?_; rintro e w10 ⟨rfl, ⟨m2, hs2, ho2, D10⟩, R10⟩
       have HS2 := Lib.hid hs2
       have HO2 := Lib.hid ho2
       clear D8 R8 HCALL hs2 ho2 k4b hH3
       go_wp2_with fail
       refine (rend_any ob r' _ R10).mono ?_; rintro e w11 ⟨rfl, S11⟩
       have D11 := D10.rd R10 S11 ho
       clear D10 R10 S11
       by_cases hen : r'.end_ = 0
       ·have hfr := HFR3.out
        rw [if_pos hen] at hfr
        have HFR4 := Lib.hid hfr
        have hte : (r'.end_ == 0) = true := by simp [hen]
        clear hfr HFR3 hen
        go_wp2_with fail
        refine (may_yes _).mono ?_; rintro e w12 ⟨rfl, rfl⟩
        have k4c := D11.c0.2.2.2.2.1
        have f4c := D11.l.free 4
        have D12 := D11.put (m' := { m2 with s := { m2.s with frames := m2.s.frames + 1 } }) 4 (.int .i64 (m2.s.frames + 1 : Nat)) rfl rfl rfl rfl rfl rfl rfl rfl
        have hfl : (m2.s.frames : Int) < 1000000000 := by have e1 := congrArg RS.frames HS2.out; have e2 := HB.out.1; have e3 := HFF.out; omega
        go_wp2
        go_roundw
        case rel =>
         refine ⟨at_ + 8 + wd, _, hk2, by go_num, D12, ?_, ?_, ?_, Lib.hid ?_⟩
         ·have e1 := congrArg RS.frames HS2.out; have e2 := HB.out.1; have e3 := HFF.out
          show (m2.s.frames + 1) * 9 ≤ _
          omega
         ·have e1 := congrArg RS.frames HS2.out; have e2 := HB.out.1; have e3 := HFF.out
          have e4 := congrArg List.length D11.hp
          have e5 := congrArg List.length D7.1.hp
          have e6 := HB.out.2.1
          have e7 := congrArg RS.procs HS2.out
          rw [List.length_map] at e4 e5
          rw [← e7] at e6
          show m2.pl.length ≤ m2.s.frames + 1
          omega
         ·have e1 := congrArg RS.frames HS2.out; have e2 := HB.out.1; have e3 := HFF.out
          have e6 := HB.out.2.2
          have e7 := congrArg RS.entries HS2.out
          rw [← e7] at e6
          show m2.s.entries.length ≤ 128 * (m2.s.frames + 1)
          omega
         ·have h := HR.out.some (m' := { m2 with s := { m2.s with frames := m2.s.frames + 1 } }) HN.out HMO.out ha0 HE0.out (by rw [HFR4.out, ← HS2.out]; show _ = some (_, m2.over); rw [HO2.out]; rfl)
          rw [← HWD.out] at h
          exact h
        case measure => simp [intOf]; omega
       ·have hfr := HFR3.out
        rw [if_neg hen] at hfr
        have HX : Hid (pageRead xs = (.zero, 3)) := Lib.hid (HR.out.none HMO.out ha0 HE0.out hfr)
        have hte : (r'.end_ == 0) = false := by simpa using hen
        clear hfr HFR3 hen
        go_wp2_with fail
        refine (may_no _).mono ?_; rintro e w12 ⟨rfl, rfl⟩
        go_wp2
        exact (HP0.out.of D11.b HRB.out).panic _ rfl rfl rfl HX.out
     ·have hfr := HFR.out
      rw [if_neg (by rw [← HFF.out]; exact hnum)] at hfr
      have HX : Hid (pageRead xs = (.zero, 3)) := Lib.hid (HR.out.none HMO.out ha0 HE0.out hfr)
      have t8 : (num == (f : Int)) = false := by simpa using hnum
      clear hfr HFR hnum
      refine Code.wp_mono (fun ex a W h => ?_) (?_ : Code.wp _ _ (PPan w 3) _ _)
      ·cases ex <;> first | exact (h : False).elim | skip
       obtain ⟨rfl, k2, k3, k4', hD⟩ := h
       exact hD.panic _ k2 k3 k4' HX.out
      ·refine wp_region_held_drew (S := fun W => W.cell? ⟨rb, 4, none⟩ = some (.int .i64 f)) (by kernel_rfl) k4 (fun hH => ?_)
       refine take_at1 0 46 (v := .bool true) rfl rfl (by kernel_rfl) (by kernel_rfl) (by kernel_rfl) (PPan.put 46 (by decide) (by decide) _) (Or.inl ⟨by rfl, ?_⟩) hH ?_
       ·intro W hW
        go_simp
        try with_reducible rfl
       try simp only [Act.put, List.setIfInBounds_toArray, List.set_cons_zero, List.set_cons_succ]
       refine take_at1 1 47 (v := .bool true) rfl rfl (by kernel_rfl) (by kernel_rfl) (by kernel_rfl) (PPan.put 47 (by decide) (by decide) _) (Or.inl ⟨by rfl, ?_⟩) hH ?_
       ·intro W hW
        go_simp
        try with_reducible rfl
       try simp only [Act.put, List.setIfInBounds_toArray, List.set_cons_zero, List.set_cons_succ]
       refine take_at1 2 48 (v := ?_) rfl rfl (by kernel_rfl) (by kernel_rfl) (by kernel_rfl) (PPan.put 48 (by decide) (by decide) _) (Or.inl ⟨by rfl, ?_⟩) hH ?_
       rotate_left
       ·intro W hW
        go_simp
        try with_reducible rfl
       try simp only [Act.put, List.setIfInBounds_toArray, List.set_cons_zero, List.set_cons_succ]
       refine take_at1 4 50 (v := ?_) rfl rfl (by kernel_rfl) (by kernel_rfl) (by kernel_rfl) (PPan.put 50 (by decide) (by decide) _) (Or.inl ⟨by rfl, ?_⟩) hH ?_
       rotate_left
       ·intro W hW
        go_simp
        try with_reducible rfl
       try simp only [Act.put, List.setIfInBounds_toArray, List.set_cons_zero, List.set_cons_succ]
       refine take_at1 5 51 (v := ?_) rfl rfl (by kernel_rfl) (by kernel_rfl) (by kernel_rfl) (PPan.put 51 (by decide) (by decide) _) (Or.inl ⟨by rfl, ?_⟩) hH ?_
       rotate_left
       ·intro W hW
        go_simp
        try with_reducible rfl
       try simp only [Act.put, List.setIfInBounds_toArray, List.set_cons_zero, List.set_cons_succ]
       refine take_at1 6 52 (v := ?_) rfl rfl (by kernel_rfl) (by kernel_rfl) (by kernel_rfl) (PPan.put 52 (by decide) (by decide) _) (Or.inl ⟨by rfl, ?_⟩) hH ?_
       rotate_left
       ·intro W hW
        go_simp
        try with_reducible rfl
       try simp only [Act.put, List.setIfInBounds_toArray, List.set_cons_zero, List.set_cons_succ]
       refine take_at1 7 53 (v := ?_) rfl rfl (by kernel_rfl) (by kernel_rfl) (by kernel_rfl) (PPan.put 53 (by decide) (by decide) _) (Or.inl ⟨by rfl, ?_⟩) hH ?_
       rotate_left
       ·intro W hW
        go_simp
        try with_reducible rfl
       try simp only [Act.put, List.setIfInBounds_toArray, List.set_cons_zero, List.set_cons_succ]
       refine wpAnyH_ready (rs := [3]) (by kernel_rfl) (by simp) ?_
       refine AllReadyH.cons rfl (fun K hK => ?_) AllReadyH.nil
       go_simp
       refine (N8.out _ D7.2.1.drew).mono ?_; rintro e w8 ⟨rfl, S8⟩
       have D8 := D7.1.drew.rd D7.2.1.drew S8 ho
       have R8 := S8.1
       have k4b := D8.c0.2.2.2.2.1
       rw [← HFF.out] at k4b
       refine hK.out _ _ k4b (fun hH2 => ?_)
       clear hK K S8
       try simp only [Act.put, List.setIfInBounds_toArray, List.set_cons_zero, List.set_cons_succ]
       refine take_at1 8 54 (v := .bool false) rfl rfl (by kernel_rfl) (by kernel_rfl) (by kernel_rfl) (PPan.put 54 (by decide) (by decide) _) (Or.inl ⟨by rfl, ?_⟩) hH2 ?_
       ·intro W hW
        go_simp
        try with_reducible rfl
       try simp only [Act.put, List.setIfInBounds_toArray, List.set_cons_zero, List.set_cons_succ]
       refine take_at1 9 55 (v := .bool false) rfl rfl (by kernel_rfl) (by kernel_rfl) (by kernel_rfl) (PPan.put 55 (by decide) (by decide) _) (Or.inl ⟨by rfl, ?_⟩) hH2 ?_
       ·intro W hW
        go_simp
        try with_reducible rfl
       try simp only [Act.put, List.setIfInBounds_toArray, List.set_cons_zero, List.set_cons_succ]
       refine wpAnyH_ready (rs := [10]) (by kernel_rfl) (by simp) ?_
       refine AllReadyH.cons rfl (fun K hK => ?_) AllReadyH.nil
       go_simp
       refine (may_no _).mono ?_; rintro e w9 ⟨rfl, rfl⟩
       exact ⟨rfl, rfl, rfl, rfl, HP0.out.of D8.b HRB.out⟩
    ·have n7 := N7.out ob
     rw [show ((3 : Nat) : Int) = 3 from rfl] at n7
     go_wp2_with (first | (go_at_call 26; refine (n7 _ R5).mono ?_; rintro e w7 ⟨rfl, S7⟩; have D7a := D5.rd R5 S7 ho; have K7 := HK3.out.keep D7a.b HNE.out; have hlk := run_lookup8 (P := Tryz.prog) Tryz.underlying75 Tryz.underlying5 K7 3 (by decide) (by decide) .nilFunc (zeroFn _) (some (2, kfn rb 54)) rfl; simp only [kfn, Option.isSome] at hlk))
     clear n7 N7
     have D7 : RSt w3 w7 rb m ∧ Rd w7 ob r1 ∧ True := ⟨D7a, S7.1, trivial⟩
     have k4 := D7a.c0.2.2.2.2.1
     rw [← HFF.out] at k4
     clear D5 R5 S7 D7a K7
     by_cases hnum : num = (f : Int)
     ·have hfr := HFR.out
      rw [if_pos (by rw [← HFF.out]; exact hnum)] at hfr
      have HFR2 := Lib.hid hfr
      have t8 : (num == (f : Int)) = true := by simp [hnum]
      clear hfr HFR hnum
      refine wp_region_noPanic ?_
      refine wp_region_held_drew (S := fun W => W.cell? ⟨rb, 4, none⟩ = some (.int .i64 f)) (by kernel_rfl) k4 (fun hH => ?_)
      refine take_at1 0 46 (v := .bool true) rfl rfl (by kernel_rfl) (by kernel_rfl) (by kernel_rfl) (fun _ _ _ h => h) (Or.inl ⟨by rfl, ?_⟩) hH ?_
      ·intro W hW
       go_simp
       try with_reducible rfl
      try simp only [Act.put, List.setIfInBounds_toArray, List.set_cons_zero, List.set_cons_succ]
      refine take_at1 1 47 (v := .bool true) rfl rfl (by kernel_rfl) (by kernel_rfl) (by kernel_rfl) (fun _ _ _ h => h) (Or.inl ⟨by rfl, ?_⟩) hH ?_
      ·intro W hW
       go_simp
       try with_reducible rfl
      try simp only [Act.put, List.setIfInBounds_toArray, List.set_cons_zero, List.set_cons_succ]
      refine take_at1 2 48 (v := ?_) rfl rfl (by kernel_rfl) (by kernel_rfl) (by kernel_rfl) (fun _ _ _ h => h) (Or.inl ⟨by rfl, ?_⟩) hH ?_
      rotate_left
      ·intro W hW
       go_simp
       try with_reducible rfl
      try simp only [Act.put, List.setIfInBounds_toArray, List.set_cons_zero, List.set_cons_succ]
      refine take_at1 4 50 (v := ?_) rfl rfl (by kernel_rfl) (by kernel_rfl) (by kernel_rfl) (fun _ _ _ h => h) (Or.inl ⟨by rfl, ?_⟩) hH ?_
      rotate_left
      ·intro W hW
       go_simp
       try with_reducible rfl
      try simp only [Act.put, List.setIfInBounds_toArray, List.set_cons_zero, List.set_cons_succ]
      refine take_at1 5 51 (v := ?_) rfl rfl (by kernel_rfl) (by kernel_rfl) (by kernel_rfl) (fun _ _ _ h => h) (Or.inl ⟨by rfl, ?_⟩) hH ?_
      rotate_left
      ·intro W hW
       go_simp
       try with_reducible rfl
      try simp only [Act.put, List.setIfInBounds_toArray, List.set_cons_zero, List.set_cons_succ]
      refine take_at1 6 52 (v := ?_) rfl rfl (by kernel_rfl) (by kernel_rfl) (by kernel_rfl) (fun _ _ _ h => h) (Or.inl ⟨by rfl, ?_⟩) hH ?_
      rotate_left
      ·intro W hW
       go_simp
       try with_reducible rfl
      try simp only [Act.put, List.setIfInBounds_toArray, List.set_cons_zero, List.set_cons_succ]
      refine take_at1 7 53 (v := ?_) rfl rfl (by kernel_rfl) (by kernel_rfl) (by kernel_rfl) (fun _ _ _ h => h) (Or.inl ⟨by rfl, ?_⟩) hH ?_
      rotate_left
      ·intro W hW
       go_simp
       try with_reducible rfl
      try simp only [Act.put, List.setIfInBounds_toArray, List.set_cons_zero, List.set_cons_succ]
      refine wpAnyH_ready (rs := [3]) (by kernel_rfl) (by simp) ?_
      refine AllReadyH.cons rfl (fun K hK => ?_) AllReadyH.nil
      go_simp
      refine (N8.out _ D7.2.1.drew).mono ?_; rintro e w8 ⟨rfl, S8⟩
      have D8 := D7.1.drew.rd D7.2.1.drew S8 ho
      have R8 := S8.1
      have k4b := D8.c0.2.2.2.2.1
      rw [← HFF.out] at k4b
      refine hK.out _ _ k4b (fun hH2 => ?_)
      clear hK K S8
      try simp only [Act.put, List.setIfInBounds_toArray, List.set_cons_zero, List.set_cons_succ]
      refine take_at1 8 54 (v := .bool true) rfl rfl (by kernel_rfl) (by kernel_rfl) (by kernel_rfl) (fun _ _ _ h => h) (Or.inl ⟨by rfl, ?_⟩) hH2 ?_
      ·intro W hW
       go_simp
       try with_reducible rfl
      try simp only [Act.put, List.setIfInBounds_toArray, List.set_cons_zero, List.set_cons_succ]
      refine take_at1 9 55 (v := .bool true) rfl rfl (by kernel_rfl) (by kernel_rfl) (by kernel_rfl) (fun _ _ _ h => h) (Or.inl ⟨by rfl, ?_⟩) hH2 ?_
      ·intro W hW
       go_simp
       try with_reducible rfl
      try simp only [Act.put, List.setIfInBounds_toArray, List.set_cons_zero, List.set_cons_succ]
      refine wpAnyH_ready (rs := [10]) (by kernel_rfl) (by simp) ?_
      refine AllReadyH.cons rfl (fun K hK => ?_) AllReadyH.nil
      go_simp
      refine (may_yes _).mono ?_; rintro e w9 ⟨rfl, rfl⟩
      refine hK.out _ _ k4b (fun hH3 => ?_)
      clear hK K
      try simp only [Act.put, List.setIfInBounds_toArray, List.set_cons_zero, List.set_cons_succ]
      refine wpAnyH_done (by kernel_rfl) ?_ _
      refine NoPanic.normal ?_
      cases hpk : pgPage wd m.s r2 with
      | none =>
       have HX : Hid (pageRead xs = (.zero, 3)) := Lib.hid (HR.out.none HMO.out ha0 HE0.out (by rw [HFR2.out]; unfold pgKind; rw [if_neg (by decide), if_neg (by decide), if_pos rfl, hpk]; rfl))
       have hcall := fun W h1 h2 => ((fun W h1 h2 => rpage_any w3 rb ob m r2 wd W h1 h2 ho HMO.out (by omega) (by omega)) W h1 h2).mono (fun e w' h => h.2 hpk)
       have HCALL := Lib.hid hcall
       clear hcall hpk
       go_wp2_with fail
       refine (HCALL.out _ D8 R8).mono ?_; rintro e w10 ⟨rfl, b10⟩
       go_wp2
       exact (HP0.out.of b10 HRB.out).panic _ rfl rfl rfl HX.out
      | some qq =>
       obtain ⟨s', r'⟩ := qq
       have hcall := fun W h1 h2 => ((fun W h1 h2 => rpage_any w3 rb ob m r2 wd W h1 h2 ho HMO.out (by omega) (by omega)) W h1 h2).mono (fun e w' h => h.1 s' r' hpk)
       have hfr := HFR2.out
       unfold pgKind at hfr
       rw [if_neg (by decide), if_neg (by decide), if_pos rfl, hpk] at hfr
       unfold pgShut at hfr
       simp only at hfr
       have hb := pgPage_b hpk
       have HFR3 := Lib.hid hfr
       have HCALL := Lib.hid hcall
       have HB := Lib.hid hb
       clear hcall hpk hfr HFR2 hb
       go_wp2_with fail
       refine (HCALL.out _ D8 R8).mono ?_; rintro e w10 ⟨rfl, ⟨m2, hs2, ho2, D10⟩, R10⟩
       have HS2 := Lib.hid hs2
       have HO2 := Lib.hid ho2
       clear D8 R8 HCALL hs2 ho2 k4b hH3
       go_wp2_with fail
       refine (rend_any ob r' _ R10).mono ?_; rintro e w11 ⟨rfl, S11⟩
       have D11 := D10.rd R10 S11 ho
       clear D10 R10 S11
       by_cases hen : r'.end_ = 0
       ·have hfr := HFR3.out
        rw [if_pos hen] at hfr
        have HFR4 := Lib.hid hfr
        have hte : (r'.end_ == 0) = true := by simp [hen]
        clear hfr HFR3 hen
        go_wp2_with fail
        refine (may_yes _).mono ?_; rintro e w12 ⟨rfl, rfl⟩
        have k4c := D11.c0.2.2.2.2.1
        have f4c := D11.l.free 4
        have D12 := D11.put (m' := { m2 with s := { m2.s with frames := m2.s.frames + 1 } }) 4 (.int .i64 (m2.s.frames + 1 : Nat)) rfl rfl rfl rfl rfl rfl rfl rfl
        have hfl : (m2.s.frames : Int) < 1000000000 := by have e1 := congrArg RS.frames HS2.out; have e2 := HB.out.1; have e3 := HFF.out; omega
        go_wp2
        go_roundw
        case rel =>
         refine ⟨at_ + 8 + wd, _, hk2, by go_num, D12, ?_, ?_, ?_, Lib.hid ?_⟩
         ·have e1 := congrArg RS.frames HS2.out; have e2 := HB.out.1; have e3 := HFF.out
          show (m2.s.frames + 1) * 9 ≤ _
          omega
         ·have e1 := congrArg RS.frames HS2.out; have e2 := HB.out.1; have e3 := HFF.out
          have e4 := congrArg List.length D11.hp
          have e5 := congrArg List.length D7.1.hp
          have e6 := HB.out.2.1
          have e7 := congrArg RS.procs HS2.out
          rw [List.length_map] at e4 e5
          rw [← e7] at e6
          show m2.pl.length ≤ m2.s.frames + 1
          omega
         ·have e1 := congrArg RS.frames HS2.out; have e2 := HB.out.1; have e3 := HFF.out
          have e6 := HB.out.2.2
          have e7 := congrArg RS.entries HS2.out
          rw [← e7] at e6
          show m2.s.entries.length ≤ 128 * (m2.s.frames + 1)
          omega
         ·have h := HR.out.some (m' := { m2 with s := { m2.s with frames := m2.s.frames + 1 } }) HN.out HMO.out ha0 HE0.out (by rw [HFR4.out, ← HS2.out]; show _ = some (_, m2.over); rw [HO2.out]; rfl)
          rw [← HWD.out] at h
          exact h
        case measure => simp [intOf]; omega
       ·have hfr := HFR3.out
        rw [if_neg hen] at hfr
        have HX : Hid (pageRead xs = (.zero, 3)) := Lib.hid (HR.out.none HMO.out ha0 HE0.out hfr)
        have hte : (r'.end_ == 0) = false := by simpa using hen
        clear hfr HFR3 hen
        go_wp2_with fail
        refine (may_no _).mono ?_; rintro e w12 ⟨rfl, rfl⟩
        go_wp2
        exact (HP0.out.of D11.b HRB.out).panic _ rfl rfl rfl HX.out
     ·have hfr := HFR.out
      rw [if_neg (by rw [← HFF.out]; exact hnum)] at hfr
      have HX : Hid (pageRead xs = (.zero, 3)) := Lib.hid (HR.out.none HMO.out ha0 HE0.out hfr)
      have t8 : (num == (f : Int)) = false := by simpa using hnum
      clear hfr HFR hnum
      refine Code.wp_mono (fun ex a W h => ?_) (?_ : Code.wp _ _ (PPan w 3) _ _)
      ·cases ex <;> first | exact (h : False).elim | skip
       obtain ⟨rfl, k2, k3, k4', hD⟩ := h
       exact hD.panic _ k2 k3 k4' HX.out
      ·refine wp_region_held_drew (S := fun W => W.cell? ⟨rb, 4, none⟩ = some (.int .i64 f)) (by kernel_rfl) k4 (fun hH => ?_)
       refine take_at1 0 46 (v := .bool true) rfl rfl (by kernel_rfl) (by kernel_rfl) (by kernel_rfl) (PPan.put 46 (by decide) (by decide) _) (Or.inl ⟨by rfl, ?_⟩) hH ?_
       ·intro W hW
        go_simp
        try with_reducible rfl
       try simp only [Act.put, List.setIfInBounds_toArray, List.set_cons_zero, List.set_cons_succ]
       refine take_at1 1 47 (v := .bool true) rfl rfl (by kernel_rfl) (by kernel_rfl) (by kernel_rfl) (PPan.put 47 (by decide) (by decide) _) (Or.inl ⟨by rfl, ?_⟩) hH ?_
       ·intro W hW
        go_simp
        try with_reducible rfl
       try simp only [Act.put, List.setIfInBounds_toArray, List.set_cons_zero, List.set_cons_succ]
       refine take_at1 2 48 (v := ?_) rfl rfl (by kernel_rfl) (by kernel_rfl) (by kernel_rfl) (PPan.put 48 (by decide) (by decide) _) (Or.inl ⟨by rfl, ?_⟩) hH ?_
       rotate_left
       ·intro W hW
        go_simp
        try with_reducible rfl
       try simp only [Act.put, List.setIfInBounds_toArray, List.set_cons_zero, List.set_cons_succ]
       refine take_at1 4 50 (v := ?_) rfl rfl (by kernel_rfl) (by kernel_rfl) (by kernel_rfl) (PPan.put 50 (by decide) (by decide) _) (Or.inl ⟨by rfl, ?_⟩) hH ?_
       rotate_left
       ·intro W hW
        go_simp
        try with_reducible rfl
       try simp only [Act.put, List.setIfInBounds_toArray, List.set_cons_zero, List.set_cons_succ]
       refine take_at1 5 51 (v := ?_) rfl rfl (by kernel_rfl) (by kernel_rfl) (by kernel_rfl) (PPan.put 51 (by decide) (by decide) _) (Or.inl ⟨by rfl, ?_⟩) hH ?_
       rotate_left
       ·intro W hW
        go_simp
        try with_reducible rfl
       try simp only [Act.put, List.setIfInBounds_toArray, List.set_cons_zero, List.set_cons_succ]
       refine take_at1 6 52 (v := ?_) rfl rfl (by kernel_rfl) (by kernel_rfl) (by kernel_rfl) (PPan.put 52 (by decide) (by decide) _) (Or.inl ⟨by rfl, ?_⟩) hH ?_
       rotate_left
       ·intro W hW
        go_simp
        try with_reducible rfl
       try simp only [Act.put, List.setIfInBounds_toArray, List.set_cons_zero, List.set_cons_succ]
       refine take_at1 7 53 (v := ?_) rfl rfl (by kernel_rfl) (by kernel_rfl) (by kernel_rfl) (PPan.put 53 (by decide) (by decide) _) (Or.inl ⟨by rfl, ?_⟩) hH ?_
       rotate_left
       ·intro W hW
        go_simp
        try with_reducible rfl
       try simp only [Act.put, List.setIfInBounds_toArray, List.set_cons_zero, List.set_cons_succ]
       refine wpAnyH_ready (rs := [3]) (by kernel_rfl) (by simp) ?_
       refine AllReadyH.cons rfl (fun K hK => ?_) AllReadyH.nil
       go_simp
       refine (N8.out _ D7.2.1.drew).mono ?_; rintro e w8 ⟨rfl, S8⟩
       have D8 := D7.1.drew.rd D7.2.1.drew S8 ho
       have R8 := S8.1
       have k4b := D8.c0.2.2.2.2.1
       rw [← HFF.out] at k4b
       refine hK.out _ _ k4b (fun hH2 => ?_)
       clear hK K S8
       try simp only [Act.put, List.setIfInBounds_toArray, List.set_cons_zero, List.set_cons_succ]
       refine take_at1 8 54 (v := .bool false) rfl rfl (by kernel_rfl) (by kernel_rfl) (by kernel_rfl) (PPan.put 54 (by decide) (by decide) _) (Or.inl ⟨by rfl, ?_⟩) hH2 ?_
       ·intro W hW
        go_simp
        try with_reducible rfl
       try simp only [Act.put, List.setIfInBounds_toArray, List.set_cons_zero, List.set_cons_succ]
       refine take_at1 9 55 (v := .bool false) rfl rfl (by kernel_rfl) (by kernel_rfl) (by kernel_rfl) (PPan.put 55 (by decide) (by decide) _) (Or.inl ⟨by rfl, ?_⟩) hH2 ?_
       ·intro W hW
        go_simp
        try with_reducible rfl
       try simp only [Act.put, List.setIfInBounds_toArray, List.set_cons_zero, List.set_cons_succ]
       refine wpAnyH_ready (rs := [10]) (by kernel_rfl) (by simp) ?_
       refine AllReadyH.cons rfl (fun K hK => ?_) AllReadyH.nil
       go_simp
       refine (may_no _).mono ?_; rintro e w9 ⟨rfl, rfl⟩
       exact ⟨rfl, rfl, rfl, rfl, HP0.out.of D8.b HRB.out⟩
    ·have n7 := N7.out ob
     rw [show ((4 : Nat) : Int) = 4 from rfl] at n7
     go_wp2_with (first | (go_at_call 26; refine (n7 _ R5).mono ?_; rintro e w7 ⟨rfl, S7⟩; have D7a := D5.rd R5 S7 ho; have K7 := HK3.out.keep D7a.b HNE.out; have hlk := run_lookup8 (P := Tryz.prog) Tryz.underlying75 Tryz.underlying5 K7 4 (by decide) (by decide) .nilFunc (zeroFn _) (some (3, kfn rb 55)) rfl; simp only [kfn, Option.isSome] at hlk))
     clear n7 N7
     have D7 : RSt w3 w7 rb m ∧ Rd w7 ob r1 ∧ True := ⟨D7a, S7.1, trivial⟩
     have k4 := D7a.c0.2.2.2.2.1
     rw [← HFF.out] at k4
     clear D5 R5 S7 D7a K7
     by_cases hnum : num = (f : Int)
     ·have hfr := HFR.out
      rw [if_pos (by rw [← HFF.out]; exact hnum)] at hfr
      have HFR2 := Lib.hid hfr
      have t8 : (num == (f : Int)) = true := by simp [hnum]
      clear hfr HFR hnum
      refine wp_region_noPanic ?_
      refine wp_region_held_drew (S := fun W => W.cell? ⟨rb, 4, none⟩ = some (.int .i64 f)) (by kernel_rfl) k4 (fun hH => ?_)
      refine take_at1 0 46 (v := .bool true) rfl rfl (by kernel_rfl) (by kernel_rfl) (by kernel_rfl) (fun _ _ _ h => h) (Or.inl ⟨by rfl, ?_⟩) hH ?_
      ·intro W hW
       go_simp
       try with_reducible rfl
      try simp only [Act.put, List.setIfInBounds_toArray, List.set_cons_zero, List.set_cons_succ]
      refine take_at1 1 47 (v := .bool true) rfl rfl (by kernel_rfl) (by kernel_rfl) (by kernel_rfl) (fun _ _ _ h => h) (Or.inl ⟨by rfl, ?_⟩) hH ?_
      ·intro W hW
       go_simp
       try with_reducible rfl
      try simp only [Act.put, List.setIfInBounds_toArray, List.set_cons_zero, List.set_cons_succ]
      refine take_at1 2 48 (v := ?_) rfl rfl (by kernel_rfl) (by kernel_rfl) (by kernel_rfl) (fun _ _ _ h => h) (Or.inl ⟨by rfl, ?_⟩) hH ?_
      rotate_left
      ·intro W hW
       go_simp
       try with_reducible rfl
      try simp only [Act.put, List.setIfInBounds_toArray, List.set_cons_zero, List.set_cons_succ]
      refine take_at1 4 50 (v := ?_) rfl rfl (by kernel_rfl) (by kernel_rfl) (by kernel_rfl) (fun _ _ _ h => h) (Or.inl ⟨by rfl, ?_⟩) hH ?_
      rotate_left
      ·intro W hW
       go_simp
       try with_reducible rfl
      try simp only [Act.put, List.setIfInBounds_toArray, List.set_cons_zero, List.set_cons_succ]
      refine take_at1 5 51 (v := ?_) rfl rfl (by kernel_rfl) (by kernel_rfl) (by kernel_rfl) (fun _ _ _ h => h) (Or.inl ⟨by rfl, ?_⟩) hH ?_
      rotate_left
      ·intro W hW
       go_simp
       try with_reducible rfl
      try simp only [Act.put, List.setIfInBounds_toArray, List.set_cons_zero, List.set_cons_succ]
      refine take_at1 6 52 (v := ?_) rfl rfl (by kernel_rfl) (by kernel_rfl) (by kernel_rfl) (fun _ _ _ h => h) (Or.inl ⟨by rfl, ?_⟩) hH ?_
      rotate_left
      ·intro W hW
       go_simp
       try with_reducible rfl
      try simp only [Act.put, List.setIfInBounds_toArray, List.set_cons_zero, List.set_cons_succ]
      refine take_at1 7 53 (v := ?_) rfl rfl (by kernel_rfl) (by kernel_rfl) (by kernel_rfl) (fun _ _ _ h => h) (Or.inl ⟨by rfl, ?_⟩) hH ?_
      rotate_left
      ·intro W hW
       go_simp
       try with_reducible rfl
      try simp only [Act.put, List.setIfInBounds_toArray, List.set_cons_zero, List.set_cons_succ]
      refine wpAnyH_ready (rs := [3]) (by kernel_rfl) (by simp) ?_
      refine AllReadyH.cons rfl (fun K hK => ?_) AllReadyH.nil
      go_simp
      refine (N8.out _ D7.2.1.drew).mono ?_; rintro e w8 ⟨rfl, S8⟩
      have D8 := D7.1.drew.rd D7.2.1.drew S8 ho
      have R8 := S8.1
      have k4b := D8.c0.2.2.2.2.1
      rw [← HFF.out] at k4b
      refine hK.out _ _ k4b (fun hH2 => ?_)
      clear hK K S8
      try simp only [Act.put, List.setIfInBounds_toArray, List.set_cons_zero, List.set_cons_succ]
      refine take_at1 8 54 (v := .bool true) rfl rfl (by kernel_rfl) (by kernel_rfl) (by kernel_rfl) (fun _ _ _ h => h) (Or.inl ⟨by rfl, ?_⟩) hH2 ?_
      ·intro W hW
       go_simp
       try with_reducible rfl
      try simp only [Act.put, List.setIfInBounds_toArray, List.set_cons_zero, List.set_cons_succ]
      refine take_at1 9 55 (v := .bool true) rfl rfl (by kernel_rfl) (by kernel_rfl) (by kernel_rfl) (fun _ _ _ h => h) (Or.inl ⟨by rfl, ?_⟩) hH2 ?_
      ·intro W hW
       go_simp
       try with_reducible rfl
      try simp only [Act.put, List.setIfInBounds_toArray, List.set_cons_zero, List.set_cons_succ]
      refine wpAnyH_ready (rs := [10]) (by kernel_rfl) (by simp) ?_
      refine AllReadyH.cons rfl (fun K hK => ?_) AllReadyH.nil
      go_simp
      refine (may_yes _).mono ?_; rintro e w9 ⟨rfl, rfl⟩
      refine hK.out _ _ k4b (fun hH3 => ?_)
      clear hK K
      try simp only [Act.put, List.setIfInBounds_toArray, List.set_cons_zero, List.set_cons_succ]
      refine wpAnyH_done (by kernel_rfl) ?_ _
      refine NoPanic.normal ?_
      cases hpk : pgEnd m.s r2 with
      | none =>
       have HX : Hid (pageRead xs = (.zero, 3)) := Lib.hid (HR.out.none HMO.out ha0 HE0.out (by rw [HFR2.out]; unfold pgKind; rw [if_neg (by decide), if_neg (by decide), if_neg (by decide), if_pos rfl, hpk]; rfl))
       have hcall := fun W h1 h2 => ((fun W h1 h2 => rends_of w3 rb ob m r2 wd W h1 h2 ho) W h1 h2).mono (fun e w' h => h.2 hpk)
       have HCALL := Lib.hid hcall
       clear hcall hpk
       go_wp2_with fail
       refine (HCALL.out _ D8 R8).mono ?_; rintro e w10 ⟨rfl, b10⟩
       go_wp2
       exact (HP0.out.of b10 HRB.out).panic _ rfl rfl rfl HX.out
      | some qq =>
       obtain ⟨s', r'⟩ := qq
       have hcall := fun W h1 h2 => ((fun W h1 h2 => rends_of w3 rb ob m r2 wd W h1 h2 ho) W h1 h2).mono (fun e w' h => h.1 s' r' hpk)
       have hfr := HFR2.out
       unfold pgKind at hfr
       rw [if_neg (by decide), if_neg (by decide), if_neg (by decide), if_pos rfl, hpk] at hfr
       unfold pgShut at hfr
       simp only at hfr
       have hb := pgEnd_b hpk
       have HFR3 := Lib.hid hfr
       have HCALL := Lib.hid hcall
       have HB := Lib.hid hb
       clear hcall hpk hfr HFR2 hb
       go_wp2_with fail
       refine (HCALL.out _ D8 R8).mono ?_; rintro e w10 ⟨rfl, ⟨m2, hs2, ho2, D10⟩, R10⟩
       have HS2 := Lib.hid hs2
       have HO2 := Lib.hid ho2
       clear D8 R8 HCALL hs2 ho2 k4b hH3
       go_wp2_with fail
       refine (rend_any ob r' _ R10).mono ?_; rintro e w11 ⟨rfl, S11⟩
       have D11 := D10.rd R10 S11 ho
       clear D10 R10 S11
       by_cases hen : r'.end_ = 0
       ·have hfr := HFR3.out
        rw [if_pos hen] at hfr
        have HFR4 := Lib.hid hfr
        have hte : (r'.end_ == 0) = true := by simp [hen]
        clear hfr HFR3 hen
        go_wp2_with fail
        refine (may_yes _).mono ?_; rintro e w12 ⟨rfl, rfl⟩
        have k4c := D11.c0.2.2.2.2.1
        have f4c := D11.l.free 4
        have D12 := D11.put (m' := { m2 with s := { m2.s with frames := m2.s.frames + 1 } }) 4 (.int .i64 (m2.s.frames + 1 : Nat)) rfl rfl rfl rfl rfl rfl rfl rfl
        have hfl : (m2.s.frames : Int) < 1000000000 := by have e1 := congrArg RS.frames HS2.out; have e2 := HB.out.1; have e3 := HFF.out; omega
        go_wp2
        go_roundw
        case rel =>
         refine ⟨at_ + 8 + wd, _, hk2, by go_num, D12, ?_, ?_, ?_, Lib.hid ?_⟩
         ·have e1 := congrArg RS.frames HS2.out; have e2 := HB.out.1; have e3 := HFF.out
          show (m2.s.frames + 1) * 9 ≤ _
          omega
         ·have e1 := congrArg RS.frames HS2.out; have e2 := HB.out.1; have e3 := HFF.out
          have e4 := congrArg List.length D11.hp
          have e5 := congrArg List.length D7.1.hp
          have e6 := HB.out.2.1
          have e7 := congrArg RS.procs HS2.out
          rw [List.length_map] at e4 e5
          rw [← e7] at e6
          show m2.pl.length ≤ m2.s.frames + 1
          omega
         ·have e1 := congrArg RS.frames HS2.out; have e2 := HB.out.1; have e3 := HFF.out
          have e6 := HB.out.2.2
          have e7 := congrArg RS.entries HS2.out
          rw [← e7] at e6
          show m2.s.entries.length ≤ 128 * (m2.s.frames + 1)
          omega
         ·have h := HR.out.some (m' := { m2 with s := { m2.s with frames := m2.s.frames + 1 } }) HN.out HMO.out ha0 HE0.out (by rw [HFR4.out, ← HS2.out]; show _ = some (_, m2.over); rw [HO2.out]; rfl)
          rw [← HWD.out] at h
          exact h
        case measure => simp [intOf]; omega
       ·have hfr := HFR3.out
        rw [if_neg hen] at hfr
        have HX : Hid (pageRead xs = (.zero, 3)) := Lib.hid (HR.out.none HMO.out ha0 HE0.out hfr)
        have hte : (r'.end_ == 0) = false := by simpa using hen
        clear hfr HFR3 hen
        go_wp2_with fail
        refine (may_no _).mono ?_; rintro e w12 ⟨rfl, rfl⟩
        go_wp2
        exact (HP0.out.of D11.b HRB.out).panic _ rfl rfl rfl HX.out
     ·have hfr := HFR.out
      rw [if_neg (by rw [← HFF.out]; exact hnum)] at hfr
      have HX : Hid (pageRead xs = (.zero, 3)) := Lib.hid (HR.out.none HMO.out ha0 HE0.out hfr)
      have t8 : (num == (f : Int)) = false := by simpa using hnum
      clear hfr HFR hnum
      refine Code.wp_mono (fun ex a W h => ?_) (?_ : Code.wp _ _ (PPan w 3) _ _)
      ·cases ex <;> first | exact (h : False).elim | skip
       obtain ⟨rfl, k2, k3, k4', hD⟩ := h
       exact hD.panic _ k2 k3 k4' HX.out
      ·refine wp_region_held_drew (S := fun W => W.cell? ⟨rb, 4, none⟩ = some (.int .i64 f)) (by kernel_rfl) k4 (fun hH => ?_)
       refine take_at1 0 46 (v := .bool true) rfl rfl (by kernel_rfl) (by kernel_rfl) (by kernel_rfl) (PPan.put 46 (by decide) (by decide) _) (Or.inl ⟨by rfl, ?_⟩) hH ?_
       ·intro W hW
        go_simp
        try with_reducible rfl
       try simp only [Act.put, List.setIfInBounds_toArray, List.set_cons_zero, List.set_cons_succ]
       refine take_at1 1 47 (v := .bool true) rfl rfl (by kernel_rfl) (by kernel_rfl) (by kernel_rfl) (PPan.put 47 (by decide) (by decide) _) (Or.inl ⟨by rfl, ?_⟩) hH ?_
       ·intro W hW
        go_simp
        try with_reducible rfl
       try simp only [Act.put, List.setIfInBounds_toArray, List.set_cons_zero, List.set_cons_succ]
       refine take_at1 2 48 (v := ?_) rfl rfl (by kernel_rfl) (by kernel_rfl) (by kernel_rfl) (PPan.put 48 (by decide) (by decide) _) (Or.inl ⟨by rfl, ?_⟩) hH ?_
       rotate_left
       ·intro W hW
        go_simp
        try with_reducible rfl
       try simp only [Act.put, List.setIfInBounds_toArray, List.set_cons_zero, List.set_cons_succ]
       refine take_at1 4 50 (v := ?_) rfl rfl (by kernel_rfl) (by kernel_rfl) (by kernel_rfl) (PPan.put 50 (by decide) (by decide) _) (Or.inl ⟨by rfl, ?_⟩) hH ?_
       rotate_left
       ·intro W hW
        go_simp
        try with_reducible rfl
       try simp only [Act.put, List.setIfInBounds_toArray, List.set_cons_zero, List.set_cons_succ]
       refine take_at1 5 51 (v := ?_) rfl rfl (by kernel_rfl) (by kernel_rfl) (by kernel_rfl) (PPan.put 51 (by decide) (by decide) _) (Or.inl ⟨by rfl, ?_⟩) hH ?_
       rotate_left
       ·intro W hW
        go_simp
        try with_reducible rfl
       try simp only [Act.put, List.setIfInBounds_toArray, List.set_cons_zero, List.set_cons_succ]
       refine take_at1 6 52 (v := ?_) rfl rfl (by kernel_rfl) (by kernel_rfl) (by kernel_rfl) (PPan.put 52 (by decide) (by decide) _) (Or.inl ⟨by rfl, ?_⟩) hH ?_
       rotate_left
       ·intro W hW
        go_simp
        try with_reducible rfl
       try simp only [Act.put, List.setIfInBounds_toArray, List.set_cons_zero, List.set_cons_succ]
       refine take_at1 7 53 (v := ?_) rfl rfl (by kernel_rfl) (by kernel_rfl) (by kernel_rfl) (PPan.put 53 (by decide) (by decide) _) (Or.inl ⟨by rfl, ?_⟩) hH ?_
       rotate_left
       ·intro W hW
        go_simp
        try with_reducible rfl
       try simp only [Act.put, List.setIfInBounds_toArray, List.set_cons_zero, List.set_cons_succ]
       refine wpAnyH_ready (rs := [3]) (by kernel_rfl) (by simp) ?_
       refine AllReadyH.cons rfl (fun K hK => ?_) AllReadyH.nil
       go_simp
       refine (N8.out _ D7.2.1.drew).mono ?_; rintro e w8 ⟨rfl, S8⟩
       have D8 := D7.1.drew.rd D7.2.1.drew S8 ho
       have R8 := S8.1
       have k4b := D8.c0.2.2.2.2.1
       rw [← HFF.out] at k4b
       refine hK.out _ _ k4b (fun hH2 => ?_)
       clear hK K S8
       try simp only [Act.put, List.setIfInBounds_toArray, List.set_cons_zero, List.set_cons_succ]
       refine take_at1 8 54 (v := .bool false) rfl rfl (by kernel_rfl) (by kernel_rfl) (by kernel_rfl) (PPan.put 54 (by decide) (by decide) _) (Or.inl ⟨by rfl, ?_⟩) hH2 ?_
       ·intro W hW
        go_simp
        try with_reducible rfl
       try simp only [Act.put, List.setIfInBounds_toArray, List.set_cons_zero, List.set_cons_succ]
       refine take_at1 9 55 (v := .bool false) rfl rfl (by kernel_rfl) (by kernel_rfl) (by kernel_rfl) (PPan.put 55 (by decide) (by decide) _) (Or.inl ⟨by rfl, ?_⟩) hH2 ?_
       ·intro W hW
        go_simp
        try with_reducible rfl
       try simp only [Act.put, List.setIfInBounds_toArray, List.set_cons_zero, List.set_cons_succ]
       refine wpAnyH_ready (rs := [10]) (by kernel_rfl) (by simp) ?_
       refine AllReadyH.cons rfl (fun K hK => ?_) AllReadyH.nil
       go_simp
       refine (may_no _).mono ?_; rintro e w9 ⟨rfl, rfl⟩
       exact ⟨rfl, rfl, rfl, rfl, HP0.out.of D8.b HRB.out⟩
    ·have HX : Hid (pageRead xs = (.zero, 3)) := Lib.hid (HR.out.none HMO.out ha0 HE0.out (by
      rw [HFR.out]
      have hpk : pgKind k wd m.s r2 = none := by
       unfold pgKind
       rw [if_neg (by omega), if_neg (by omega), if_neg (by omega), if_neg (by omega)]
      rw [hpk]
      split <;> rfl))
     have hfn : Instr.findNow (.int .u8) (.int .u8 (k : Int)) (kfs rb).toList 0 = some none := by
      have q1 : ((k : Int) == 1) = false := by simp; omega
      have q2 : ((k : Int) == 2) = false := by simp; omega
      have q3 : ((k : Int) == 3) = false := by simp; omega
      have q4 : ((k : Int) == 4) = false := by simp; omega
      simp [kfs, Instr.findNow, Instr.sameNow, q1, q2, q3, q4]
     have HFN := Lib.hid hfn
     have n7 := N7.out ob
     clear hfn hko
     go_wp2_with (first | (go_at_call 26; refine (n7 _ R5).mono ?_; rintro e w7 ⟨rfl, S7⟩; have D7a := D5.rd R5 S7 ho; have K7 := HK3.out.keep D7a.b HNE.out; have hlk := run_lookup8 (P := Tryz.prog) Tryz.underlying75 Tryz.underlying5 K7 (k : Int) (by omega) (by omega) .nilFunc (zeroFn _) none HFN.out; simp only [Option.isSome] at hlk))
     clear n7 N7
     have D7 : RSt w3 w7 rb m ∧ Rd w7 ob r1 ∧ True := ⟨D7a, S7.1, trivial⟩
     clear D5 R5 S7 D7a K7
     refine Code.wp_mono (fun ex a W h => ?_) (?_ : Code.wp _ _ (PPan w 3) _ _)
     ·cases ex <;> first | exact (h : False).elim | skip
      obtain ⟨rfl, k2, k3, k4', hD⟩ := h
      exact hD.panic _ k2 k3 k4' HX.out
     ·refine wp_region_held_drew (S := fun _ => True) (by kernel_rfl) trivial (fun hH => ?_)
      refine take_at1 0 46 (v := .bool false) rfl rfl (by kernel_rfl) (by kernel_rfl) (by kernel_rfl) (PPan.put 46 (by decide) (by decide) _) (Or.inl ⟨by rfl, ?_⟩) hH ?_
      ·intro W hW
       go_simp
       try with_reducible rfl
      try simp only [Act.put, List.setIfInBounds_toArray, List.set_cons_zero, List.set_cons_succ]
      refine take_at1 1 47 (v := .bool false) rfl rfl (by kernel_rfl) (by kernel_rfl) (by kernel_rfl) (PPan.put 47 (by decide) (by decide) _) (Or.inl ⟨by rfl, ?_⟩) hH ?_
      ·intro W hW
       go_simp
       try with_reducible rfl
      try simp only [Act.put, List.setIfInBounds_toArray, List.set_cons_zero, List.set_cons_succ]
      refine take_at1 2 48 rfl rfl (by kernel_rfl) (by kernel_rfl) (by kernel_rfl) (PPan.put 48 (by decide) (by decide) _) (Or.inr ⟨by rfl, rfl⟩) hH ?_
      try simp only [Act.put, List.setIfInBounds_toArray, List.set_cons_zero, List.set_cons_succ]
      refine take_at1 3 49 rfl rfl (by kernel_rfl) (by kernel_rfl) (by kernel_rfl) (PPan.put 49 (by decide) (by decide) _) (Or.inr ⟨by rfl, rfl⟩) hH ?_
      try simp only [Act.put, List.setIfInBounds_toArray, List.set_cons_zero, List.set_cons_succ]
      refine take_at1 4 50 rfl rfl (by kernel_rfl) (by kernel_rfl) (by kernel_rfl) (PPan.put 50 (by decide) (by decide) _) (Or.inr ⟨by rfl, rfl⟩) hH ?_
      try simp only [Act.put, List.setIfInBounds_toArray, List.set_cons_zero, List.set_cons_succ]
      refine take_at1 5 51 rfl rfl (by kernel_rfl) (by kernel_rfl) (by kernel_rfl) (PPan.put 51 (by decide) (by decide) _) (Or.inr ⟨by rfl, rfl⟩) hH ?_
      try simp only [Act.put, List.setIfInBounds_toArray, List.set_cons_zero, List.set_cons_succ]
      refine take_at1 6 52 rfl rfl (by kernel_rfl) (by kernel_rfl) (by kernel_rfl) (PPan.put 52 (by decide) (by decide) _) (Or.inr ⟨by rfl, rfl⟩) hH ?_
      try simp only [Act.put, List.setIfInBounds_toArray, List.set_cons_zero, List.set_cons_succ]
      refine take_at1 7 53 rfl rfl (by kernel_rfl) (by kernel_rfl) (by kernel_rfl) (PPan.put 53 (by decide) (by decide) _) (Or.inr ⟨by rfl, rfl⟩) hH ?_
      try simp only [Act.put, List.setIfInBounds_toArray, List.set_cons_zero, List.set_cons_succ]
      refine take_at1 8 54 rfl rfl (by kernel_rfl) (by kernel_rfl) (by kernel_rfl) (PPan.put 54 (by decide) (by decide) _) (Or.inr ⟨by rfl, rfl⟩) hH ?_
      try simp only [Act.put, List.setIfInBounds_toArray, List.set_cons_zero, List.set_cons_succ]
      refine take_at1 9 55 (v := .bool false) rfl rfl (by kernel_rfl) (by kernel_rfl) (by kernel_rfl) (PPan.put 55 (by decide) (by decide) _) (Or.inl ⟨by rfl, ?_⟩) hH ?_
      ·intro W hW
       go_simp
       try with_reducible rfl
      try simp only [Act.put, List.setIfInBounds_toArray, List.set_cons_zero, List.set_cons_succ]
      refine wpAnyH_ready (rs := [10]) (by kernel_rfl) (by simp) ?_
      refine AllReadyH.cons rfl (fun K hK => ?_) AllReadyH.nil
      go_simp
      refine (may_no _).mono ?_; rintro e w9 ⟨rfl, rfl⟩
      exact ⟨rfl, rfl, rfl, rfl, HP0.out.of D7.1.drew.b HRB.out⟩
end Go.Proofs.YtnieminnnkbneaaGreat
