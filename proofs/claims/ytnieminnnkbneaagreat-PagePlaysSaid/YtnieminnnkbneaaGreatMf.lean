/- Two readings of the same bytes: what stands in memory behind them. -/
import Derived.Test.YtnieminnnkbneaaGreatRfp
import Derived.Test.YtnieminnnkbneaaGreatRnx
import Derived.Test.YtnieminnnkbneaaGreatRff
import Derived.Test.YtnieminnnkbneaaGreatRdc
import Derived.Test.YtnieminnnkbneaaGreatRdr
import Derived.Test.YtnieminnnkbneaaGreatLcm
namespace Go.Proofs.YtnieminnnkbneaaGreat
open Go.RowKit

def RSok (s : RS) : Prop := (∀ q ∈ s.procs, q.inR ∧ q.code.length ≤ 64) ∧ s.procs.length ≤ s.frames ∧ s.entries.length ≤ 128 * s.frames
theorem RSok.zero : RSok .zero := ⟨(fun _ h => by cases h), Nat.le_refl _, Nat.zero_le _⟩

theorem decoded_ok {b : Bs} (h : (procDecode b).2 = 0) : (procDecode b).1.inR ∧ (procDecode b).1.code.length ≤ 64 := by
 obtain ⟨hc, _, hf⟩ := proc_form (b := b) (p := (procDecode b).1) (by rw [← h])
 obtain ⟨_, h1, h2, _⟩ := procCheck_zero hc
 exact ⟨⟨by unfold i64R; omega, fun i hi => fits_inR (hf i hi)⟩, h2⟩

theorem pgEnts_more {all : Nat} : ∀ (n : Nat) {s s' : RS} {r r' : Rdr}, pgEnts all n s r = some (s', r') → s'.procs = s.procs ∧ s'.entries.length = s.entries.length + n
 | 0, s, s', r, r', e => by cases e; exact ⟨rfl, rfl⟩
 | n + 1, s, s', r, r', e => by
  rw [pgEnts] at e
  cases hq : pgEnt all s r with
  | none => rw [hq] at e; cases e
  | some q =>
   obtain ⟨s1, r1⟩ := q
   rw [hq] at e
   obtain ⟨h1, h2⟩ := pgEnts_more n e
   rw [h1, h2]
   unfold pgEnt at hq
   simp only at hq
   split at hq
   ·cases hq
    refine ⟨rfl, ?_⟩
    simp only [List.length_append, List.length_cons, List.length_nil]
    omega
   ·cases hq

theorem pgKind_ok {k all : Nat} {s s' : RS} {r r' : Rdr} (h : pgKind k all s r = some (s', r')) (ho : RSok s) : (∀ q ∈ s'.procs, q.inR ∧ q.code.length ≤ 64) ∧ s'.procs.length ≤ s.frames + 1 ∧ s'.entries.length ≤ 128 * s.frames + 128 := by
 obtain ⟨h1, h2, h3⟩ := ho
 unfold pgKind at h
 split at h
 ·unfold pgHead at h
  split at h
  ·cases h; exact ⟨h1, by show s.procs.length ≤ _; omega, by show s.entries.length ≤ _; omega⟩
  ·cases h
 ·split at h
  ·unfold pgProc at h
   split at h
   ·next hc =>
    cases h
    refine ⟨fun q hq => ?_, by simp only [List.length_append, List.length_cons, List.length_nil]; omega, by show s.entries.length ≤ _; omega⟩
    rcases List.mem_append.1 hq with hq | hq
    ·exact h1 q hq
    ·rw [List.mem_singleton.1 hq]; exact decoded_ok hc.2.1
   ·cases h
  ·split at h
   ·unfold pgPage at h
    split at h
    ·next hc =>
     obtain ⟨e1, e2⟩ := pgEnts_more _ h
     rw [e1, e2]
     exact ⟨h1, by omega, by omega⟩
    ·cases h
   ·split at h
    ·unfold pgEnd at h
     split at h
     ·cases h; exact ⟨h1, by omega, by omega⟩
     ·cases h
    ·cases h
theorem pgFrame_ok {s s' : RS} {b : Bs} {o : Bool} (h : pgFrame s b = some (s', o)) (ho : RSok s) : RSok s' ∧ s'.frames = s.frames + 1 := by
 unfold pgFrame at h
 split at h
 ·cases hq : pgKind (Rdr.new b).byte.1 b.length s (Rdr.new b).byte.2.number.2 with
  | none => rw [hq] at h; cases h
  | some q =>
   obtain ⟨s1, r1⟩ := q
   rw [hq] at h
   obtain ⟨e1, e2, e3⟩ := pgKind_ok hq ho
   have e4 := pgKind_frames hq
   unfold pgShut at h
   simp only at h
   split at h
   ·cases h
    refine ⟨⟨e1, ?_, ?_⟩, ?_⟩
    ·show s1.procs.length ≤ s1.frames + 1; omega
    ·show s1.entries.length ≤ 128 * (s1.frames + 1); omega
    ·show s1.frames + 1 = _; omega
   ·cases h
 ·cases h
theorem next_zero {xs : Bs} {p : Nat} (h : nextE xs p = 0) : 0 < wordAt xs p ∧ p + 8 + wordAt xs p ≤ xs.length := by
 unfold nextE at h
 split at h
 ·cases h
 ·split at h
  ·cases h
  ·split at h
   ·cases h
   ·omega
theorem pgLoop_ok (xs : Bs) : ∀ (f at_ : Nat) (s : RS), RSok s → s.frames ≤ at_ → at_ ≤ xs.length → RSok (pgLoop xs f at_ s).1 ∧ (pgLoop xs f at_ s).1.frames ≤ xs.length
 | 0, _, _, _, _, _ => ⟨RSok.zero, Nat.zero_le _⟩
 | f + 1, at_, s, ho, hf, ha => by
  rw [pgLoop]
  by_cases h12 : nextE xs at_ = 12
  ·rw [if_pos h12]; exact ⟨RSok.zero, Nat.zero_le _⟩
  ·rw [if_neg h12]
   by_cases h0 : nextE xs at_ = 0
   ·rw [if_neg (by simpa using h0)]
    obtain ⟨hw1, hw2⟩ := next_zero h0
    cases hq : pgFrame s (bodyAt xs at_) with
    | none => exact ⟨RSok.zero, Nat.zero_le _⟩
    | some q =>
     obtain ⟨s1, over⟩ := q
     obtain ⟨e1, e2⟩ := pgFrame_ok hq ho
     simp only
     cases over with
     | true =>
      rw [if_pos rfl]
      by_cases he : at_ + 8 + wordAt xs at_ = xs.length
      ·rw [if_pos he]; exact ⟨e1, by show s1.frames ≤ _; omega⟩
      ·rw [if_neg he]; exact ⟨RSok.zero, Nat.zero_le _⟩
     | false =>
      rw [if_neg (by decide)]
      exact pgLoop_ok xs f _ s1 e1 (by omega) hw2
   ·rw [if_pos h0]; exact ⟨RSok.zero, Nat.zero_le _⟩
theorem pageRead_ok (xs : Bs) : RSok (pageRead xs).1 ∧ (pageRead xs).1.frames ≤ xs.length := pgLoop_ok xs _ 0 .zero RSok.zero (Nat.le_refl _) (Nat.zero_le _)
end Go.Proofs.YtnieminnnkbneaaGreat

namespace Go.Proofs.YtnieminnnkbneaaGreat
open Go.RowKit
set_option linter.unusedVariables false

/-- Next of the document, of any row. -/
theorem rnextr_any (xs : Bs) (A : Option Addr) (n c p : Nat) (hn : n = xs.length) (hnc : n ≤ c) (hlen : n ≤ 1000000000) (hp : p ≤ n) (w : World) (hr : Row w A (cellsB xs)) :
  Calls Tryz.prog 30 #[.slice A n c, .int .i64 p] w fun e w' => (∃ v, e = .returned v ∧ NextR xs n p w.heap.size v w') ∧ Below w.heap.size w w' := by
 rcases hr with h0 | ⟨b, off, rfl, hr⟩
 ·have hx : xs = [] := by simpa [cellsB] using h0
  subst hx
  obtain rfl : n = 0 := hn
  obtain rfl : p = 0 := by omega
  refine (rnext0_any A c w).mono ?_
  rintro e w' ⟨rfl, hb⟩
  have e12 : nextE [] 0 = 12 := by unfold nextE; exact if_pos (by simp)
  exact ⟨⟨_, rfl, .inl ⟨by rw [e12]; decide, by rw [e12]; rfl⟩⟩, hb⟩
 ·exact rnext_any xs b off n c p hn hnc hlen hp w (fun j hj => by
   rw [hr j (by rw [cellsB_length]; exact hj)]
   simp [cellsB, hj])

/-- What the document's Read answers. -/
def RrPost (xs : Bs) (w : World) (e : Ending) (w' : World) : Prop :=
 ∃ (s : RS) (g : RG), s = (pageRead xs).1 ∧ e = .returned (.tuple #[.agg (imV s g), .int .i64 (pageRead xs).2]) ∧ Img w.heap.size w' s g ∧ Below w.heap.size w w'
theorem Img.zero (B : Nat) (W : World) : Img B W RS.zero RG.zero := ⟨rfl, World.ownsRow_nil _ _ _ _, (fun _ h => by cases h), World.ownsRow_nil _ _ _ _⟩
theorem RrPost.none {xs : Bs} {w w' : World} {E : Int} (hx : pageRead xs = (.zero, E)) (hb : Below w.heap.size w w') : RrPost xs w (.returned (.tuple #[.agg imgZ, .int .i64 E])) w' :=
 ⟨RS.zero, RG.zero, by rw [hx], by rw [hx]; rfl, Img.zero _ _, hb⟩
theorem RrPost.yes {xs : Bs} {w w' : World} {s : RS} {g : RG} (hx : pageRead xs = (s, 0)) (hi : Img w.heap.size w' s g) (hb : Below w.heap.size w w') : RrPost xs w (.returned (.tuple #[.agg (imV s g), .int .i64 0])) w' :=
 ⟨s, g, by rw [hx], by rw [hx], hi, hb⟩

theorem Img.putV {B b : Nat} {W : World} {s : RS} {g : RG} {x0 : PW} (h : Img B W s g) (hl : VLoc W b x0) (x : PW) : Img B (putV W b x) s g :=
 ⟨h.hp, putV_own h.op (owns_ne h.op hl (by decide)) x, fun y hy => putV_own (h.oc y hy) (owns_ne (h.oc y hy) hl (by decide)) x, putV_own h.oe (owns_ne h.oe hl (by decide)) x⟩
theorem Img.putM {B b : Nat} {W : World} {s s' : RS} {g g' : RG} {c0 c1 c2 c3 : Value} (h : Img B W s g) (hl : Loc W b #[c0, c1, c2, c3] 41) : Img B (putM W b s' g') s g := by
 have L1 := hl.set 0 (.int .i64 s'.number)
 have L2 := L1.set 1 (.int .i64 s'.mark)
 have L3 := L2.set 2 (.slice g'.P g'.pl.length g'.cp)
 exact (((h.other hl (by decide) (by decide) (by decide) 0 (.int .i64 s'.number)).other L1 (by decide) (by decide) (by decide) 1 (.int .i64 s'.mark)).other L2 (by decide) (by decide) (by decide) 2 (.slice g'.P g'.pl.length g'.cp)).other L3 (by decide) (by decide) (by decide) 3 (.slice g'.E s'.entries.length g'.ce)
theorem putM_loc {b : Nat} {W : World} {s : RS} {g : RG} {c0 c1 c2 c3 : Value} (hl : Loc W b #[c0, c1, c2, c3] 41) : Loc (putM W b s g) b (imV s g) 41 :=
 (((hl.set 0 (.int .i64 s.number)).set 1 (.int .i64 s.mark)).set 2 (.slice g.P g.pl.length g.cp)).set 3 (.slice g.E s.entries.length g.ce)
theorem putM_under {b B : Nat} {W a : World} {s : RS} {g : RG} (h : Below B a W) (hb : B ≤ b) : Below B a (putM W b s g) :=
 (((h.setCell (p := ⟨b, 0, none⟩) hb _).setCell (p := ⟨b, 1, none⟩) hb _).setCell (p := ⟨b, 2, none⟩) hb _).setCell (p := ⟨b, 3, none⟩) hb _

theorem rdRel_of {xs : Bs} {n at_ : Nat} {s : RS} (h : ∃ f, n + 1 ≤ f + at_ ∧ pageRead xs = pgLoop xs f at_ s) : RdRel xs n at_ { RM.zero with s := s } := ⟨(fun h => by cases h), fun _ => h⟩

/-- The blocks of Read: the result, the writer, the image. -/
structure RdB (w W : World) (x : PW) (s : RS) (g : RG) : Prop where
 l2 : Loc W w.heap.size imgZ 41
 lw : VLoc W (w.heap.size + 1) x
 li : Loc W (w.heap.size + 2) (imV s g) 41
 b : Below w.heap.size w W
namespace RdB
variable {w W V : World} {x : PW} {s : RS} {g : RG}
theorem below (h : RdB w W x s g) (hb : Below W.heap.size W V) : RdB w V x s g :=
 ⟨h.l2.below hb h.l2.lt, Loc.below h.lw hb (Loc.lt h.lw), h.li.below hb h.li.lt, below_then h.b hb h.b.size⟩
theorem step (h : RdB w W x s g) (hI : Img w.heap.size W s g) (K : Keep W.heap.size g.F W V) : RdB w V x s g := by
 have nF : ∀ {b : Nat} {cs : Array Value} {t : TypeId}, Loc W b cs t → 54 ≠ t → 62 ≠ t → ¬ g.F b := fun hl h1 h2 hf => by
  rcases hf with hf | hf
  ·exact owns_ne hI.op hl h1 (obP hf)
  ·exact owns_ne hI.oe hl h2 (obP hf)
 refine ⟨h.l2.keep K h.l2.lt (nF h.l2 (by decide) (by decide)), Loc.keep h.lw K (Loc.lt h.lw) (nF h.lw (by decide) (by decide)), h.li.keep K h.li.lt (nF h.li (by decide) (by decide)), below_keep h.b K h.b.size (fun k hk => ?_)⟩
 rcases hk with hk | hk
 ·exact (hI.op.lt k (obP hk)).1
 ·exact (hI.oe.lt k (obP hk)).1
theorem put (h : RdB w W x s g) (x' : PW) (s' : RS) (g' : RG) : RdB w (putM (putV W (w.heap.size + 1) x') (w.heap.size + 2) s' g') x' s' g' := by
 refine ⟨loc_put4o (putV_other h.l2 (by omega) x') (by omega) _ _ _ _, loc_put4o (putV_loc h.lw x') (by omega) _ _ _ _, putM_loc (putV_other h.li (by omega) x'), putM_under (putV_below h.b (by omega) x') (by omega)⟩
theorem img (h : RdB w W x s g) {s1 : RS} {g1 : RG} (hI : Img w.heap.size W s1 g1) (x' : PW) (s' : RS) (g' : RG) : Img w.heap.size (putM (putV W (w.heap.size + 1) x') (w.heap.size + 2) s' g') s1 g1 :=
 (hI.putV h.lw x').putM (putV_other h.li (show w.heap.size + 2 ≠ w.heap.size + 1 by omega) x')
theorem finZ (h : RdB w W x s g) : Loc ((((W.setCell ⟨w.heap.size, 0, none⟩ (.int .i64 0)).setCell ⟨w.heap.size, 1, none⟩ (.int .i64 0)).setCell ⟨w.heap.size, 2, none⟩ (.slice none 0 0)).setCell ⟨w.heap.size, 3, none⟩ (.slice none 0 0)) w.heap.size imgZ 41 ∧
  Below w.heap.size w ((((W.setCell ⟨w.heap.size, 0, none⟩ (.int .i64 0)).setCell ⟨w.heap.size, 1, none⟩ (.int .i64 0)).setCell ⟨w.heap.size, 2, none⟩ (.slice none 0 0)).setCell ⟨w.heap.size, 3, none⟩ (.slice none 0 0)) :=
 ⟨putM_loc (s := RS.zero) (g := RG.zero) h.l2, putM_under (s := RS.zero) (g := RG.zero) h.b (Nat.le_refl _)⟩
theorem finS (h : RdB w W x s g) (hI : Img w.heap.size W s g) : Loc (putM W w.heap.size s g) w.heap.size (imV s g) 41 ∧ Img w.heap.size (putM W w.heap.size s g) s g ∧ Below w.heap.size w (putM W w.heap.size s g) :=
 ⟨putM_loc h.l2, hI.putM h.l2, putM_under h.b (Nat.le_refl _)⟩
end RdB

set_option maxRecDepth 100000 in
set_option maxHeartbeats 8000000 in
theorem r14read_any (A : Option Addr) (n c : Nat) (xs : Bs) (w : World) (hr : Row w A (cellsB xs)) (hn : n = xs.length) (hnc : n ≤ c) (hlen : n ≤ 1000000000) :
  Calls Tryz.prog 12 #[.slice A n c] w (RrPost xs w) := by
 have hrow : ∀ W, Below w.heap.size w W → Row W A (cellsB xs) := fun W hb => hr.of_below hb (Nat.le_refl _)
 have R0 : RdB w (((w.alloc (.cells imgZ 41)).alloc (.cells PW.zero.val 29)).alloc (.cells imgZ 41)) PW.zero RS.zero RG.zero := by
  have h2 := Loc.new w imgZ 41
  have h3 := Loc.new (w.alloc (.cells imgZ 41)) PW.zero.val 29
  have h4 := Loc.new ((w.alloc (.cells imgZ 41)).alloc (.cells PW.zero.val 29)) imgZ 41
  simp only [World.size_alloc] at h3 h4
  exact ⟨(h2.alloc _).alloc _, Loc.alloc h3 _, h4, (((Below.refl w.heap.size w).alloc (Nat.le_refl _) _).alloc (by simp) _).alloc (by simp only [World.size_alloc]; omega) _⟩
 obtain ⟨W0, hW0⟩ : ∃ W0, W0 = ((w.alloc (.cells imgZ 41)).alloc (.cells PW.zero.val 29)).alloc (.cells imgZ 41) := ⟨_, rfl⟩
 rw [← hW0] at R0
 have HROW := Lib.hid hrow
 have HN := Lib.hid hn
 have HW := hW0.symm
 unfold PW.val PW.zero imgZ emptyB at HW
 have HW := Lib.hid HW
 have HREL : Hid (∃ f, n + 1 ≤ f + 0 ∧ pageRead xs = pgLoop xs f 0 RS.zero) := Lib.hid ⟨xs.length + 1, by omega, rfl⟩
 clear hr hrow hn hW0
 go_enter Tryz.func12, Tryz.ntmps12
 go_upto_region 3 with (fail)
 simp only [show ((0 : Nat) : Int) = 0 from rfl] at HW
 rw [HW.out, show w.heap.size + 1 + 1 = w.heap.size + 2 from rfl]
 clear HW
 go_wp2
 go_loopw [6] (fun i wr => ∃ (at_ : Nat) (s : RS) (g : RG), at_ ≤ n ∧ i = .int .i64 at_ ∧ RdB w wr (s.pw s.frames) s g ∧ Img w.heap.size wr s g ∧ Hid (RSok s) ∧ s.frames * 9 ≤ at_ ∧ Hid (∃ f, n + 1 ≤ f + at_ ∧ pageRead xs = pgLoop xs f at_ s)) (fun i _ => n - (intOf i).toNat)
 case atStart => exact ⟨0, RS.zero, RG.zero, Nat.zero_le _, rfl, R0, Img.zero _ _, Lib.hid RSok.zero, Nat.le_refl _, HREL⟩
 case round =>
  obtain ⟨wi, rfl⟩ : ∃ wi, wi = wr := ⟨_, rfl⟩
  obtain ⟨at_, s, g, ha0, rfl, RI, II, HO, hB1, HR⟩ := hrel
  clear R0 HREL
  go_wp2_with fail
  refine (rnextr_any xs A n c at_ HN.out hnc hlen ha0 _ (HROW.out _ RI.b)).mono ?_; rintro e w4 ⟨⟨v, rfl, hv⟩, b4⟩
  have R4 := RI.below b4
  have I4 := II.below b4
  have hszi := RI.b.size
  clear RI II
  obtain ⟨E, hE⟩ : ∃ E, E = nextE xs at_ := ⟨_, rfl⟩
  unfold NextR at hv
  rw [← hE] at hv
  have HE := Lib.hid hE
  clear hE
  rcases hv with ⟨he, rfl⟩ | ⟨he, hk0, hk1, hk2, gb, cc, rfl, own⟩
  ·clear I4 HO
   by_cases h12 : E = 12
   ·have HX : Hid (pageRead xs = (.zero, 2)) := Lib.hid ((rdRel_of HR.out).short rfl ha0 (by rw [← HE.out]; exact h12))
    subst h12
    clear he HR
    have z0 := R4.l2.cell 0; have z1 := R4.l2.cell 1; have z2 := R4.l2.cell 2; have z3 := R4.l2.cell 3
    unfold imgZ at z0 z1 z2 z3
    simp only [List.getElem?_toArray, List.getElem?_cons_zero, List.getElem?_cons_succ] at z0 z1 z2 z3
    have y0 := R4.l2.free 0; have y1 := R4.l2.free 1; have y2 := R4.l2.free 2; have y3 := R4.l2.free 3
    have HZ := Lib.hid R4.finZ
    clear R4
    go_wp2
    have q0 := HZ.out.1.cell 0; have q1 := HZ.out.1.cell 1; have q2 := HZ.out.1.cell 2; have q3 := HZ.out.1.cell 3
    unfold imgZ at q0 q1 q2 q3
    simp only [List.getElem?_toArray, List.getElem?_cons_zero, List.getElem?_cons_succ] at q0 q1 q2 q3
    exact bodyPost_ret (by simp [results, Tryz.results12, go_sem, q0, q1, q2, q3]; rfl) rfl (RrPost.none HX.out HZ.out.2)
   ·have HX : Hid (pageRead xs = (.zero, 13)) := Lib.hid ((rdRel_of HR.out).torn rfl ha0 (by rw [← HE.out]; exact h12) (by rw [← HE.out]; exact he))
    have t1 : ((E : Int) != 0) = true := by simp; omega
    have t2 : ((E : Int) == 12) = false := by simp; omega
    clear he h12 HR
    have z0 := R4.l2.cell 0; have z1 := R4.l2.cell 1; have z2 := R4.l2.cell 2; have z3 := R4.l2.cell 3
    unfold imgZ at z0 z1 z2 z3
    simp only [List.getElem?_toArray, List.getElem?_cons_zero, List.getElem?_cons_succ] at z0 z1 z2 z3
    have y0 := R4.l2.free 0; have y1 := R4.l2.free 1; have y2 := R4.l2.free 2; have y3 := R4.l2.free 3
    have HZ := Lib.hid R4.finZ
    clear R4
    go_wp2
    have q0 := HZ.out.1.cell 0; have q1 := HZ.out.1.cell 1; have q2 := HZ.out.1.cell 2; have q3 := HZ.out.1.cell 3
    unfold imgZ at q0 q1 q2 q3
    simp only [List.getElem?_toArray, List.getElem?_cons_zero, List.getElem?_cons_succ] at q0 q1 q2 q3
    exact bodyPost_ret (by simp [results, Tryz.results12, go_sem, q0, q1, q2, q3]; rfl) rfl (RrPost.none HX.out HZ.out.2)
  ·subst he
   have HE0 : Hid (nextE xs at_ = 0) := Lib.hid HE.out.symm
   obtain ⟨K, hK⟩ : ∃ K, K = wordAt xs at_ := ⟨_, rfl⟩
   rw [← hK] at hk0 hk1 hk2 own ⊢
   obtain ⟨bs, hbs⟩ : ∃ bs, bs = bodyAt xs at_ := ⟨_, rfl⟩
   have hbl : bs.length = K := by rw [hbs, hK]; exact bodyAt_length xs at_ (by rw [← hK, ← HN.out]; exact hk2)
   rw [← hbs] at own
   have hcap : K ≤ cc := (owns_cap own (by rw [← hK] at *; omega)).1
   have hnF : ∀ a, (some (⟨gb, 0, none⟩ : Addr)) = some a → ¬ g.F a.block := by
    intro a ha hf
    cases ha
    rcases own.2 with ⟨h, _⟩ | ⟨g9, cap9, cur9, h, _, hh, _⟩
    ·cases h
    ·cases h
     rcases hf with hf | hf
     ·exact owns_ne I4.op hh (by decide) (obP hf)
     ·exact owns_ne I4.oe hh (by decide) (obP hf)
   have ho := HO.out
   have hcall := r14frame_any w.heap.size w4 s g (some ⟨gb, 0, none⟩) cc bs I4 R4.b.size (by have := Row.of_owns own; exact this) hnF (by omega) (fun h => by cases h) (by omega) (by have := ho.2.2; omega) (by have := ho.2.1; omega) (by omega)
   rw [hbl] at hcall
   have hfe := rfFrame_eq s bs
   obtain ⟨ov, hov⟩ : ∃ ov, ov = decide ((Rdr.new bs).byte.1 = 4) := ⟨_, rfl⟩
   obtain ⟨q, hq⟩ : ∃ q, q = rfFrame s bs := ⟨_, rfl⟩
   rw [← hov, ← hq] at hcall
   rw [← hov, ← hq, hbs] at hfe
   have HFE := Lib.hid hfe
   have HKW := Lib.hid hK
   unfold PW.val imV RS.pw at hcall
   simp only [show ((0 : Nat) : Int) = 0 from rfl] at hcall
   have HC := Lib.hid hcall
   clear hcall hfe hov hq hbs hbl own hnF ho hK hcap
   obtain ⟨k10, k11, k12, k13, k14, k15, k16, k17⟩ := VLoc.cells R4.lw
   simp only [RS.pw, show ((0 : Nat) : Int) = 0 from rfl] at k10 k11 k12 k13 k14 k15 k16 k17
   have m0 : w4.cell? ⟨w.heap.size + 2, 0, none⟩ = some (.int .i64 s.number) := R4.li.cell 0
   have m1 : w4.cell? ⟨w.heap.size + 2, 1, none⟩ = some (.int .i64 s.mark) := R4.li.cell 1
   have m2 : w4.cell? ⟨w.heap.size + 2, 2, none⟩ = some (.slice g.P g.pl.length g.cp) := R4.li.cell 2
   have m3 : w4.cell? ⟨w.heap.size + 2, 3, none⟩ = some (.slice g.E s.entries.length g.ce) := R4.li.cell 3
   go_wp2_with fail
   refine HC.out.mono ?_; rintro e w5 ⟨K5, h5s, h5n⟩
   have R5 := R4.step I4 K5
   clear HC K5 R4 I4 k10 k11 k12 k13 k14 k15 k16 k17 m0 m1 m2 m3
   cases q with
   | none =>
    obtain ⟨o, x7, s7, g7, rfl⟩ := h5n rfl
    have HX : Hid (pageRead xs = (.zero, 3)) := Lib.hid ((rdRel_of HR.out).none rfl ha0 HE0.out HFE.out)
    have R6 := R5.put x7 s7 g7
    unfold putM put4 putV at R6
    unfold okF PW.val imV
    clear h5s h5n HR HFE
    obtain ⟨o0, o1, o2, o3, o4, o5, o6, o7⟩ := R5.lw.cells
    obtain ⟨fz0, fz1, fz2, fz3, fz4, fz5, fz6, fz7⟩ := VLoc.free8 R5.lw
    have n0 : w5.cell? ⟨w.heap.size + 2, 0, none⟩ = some (.int .i64 s.number) := R5.li.cell 0
    have n1 : w5.cell? ⟨w.heap.size + 2, 1, none⟩ = some (.int .i64 s.mark) := R5.li.cell 1
    have n2 : w5.cell? ⟨w.heap.size + 2, 2, none⟩ = some (.slice g.P g.pl.length g.cp) := R5.li.cell 2
    have n3 : w5.cell? ⟨w.heap.size + 2, 3, none⟩ = some (.slice g.E s.entries.length g.ce) := R5.li.cell 3
    have e0 := R5.li.free 0; have e1 := R5.li.free 1; have e2 := R5.li.free 2; have e3 := R5.li.free 3
    go_upto_region 12 with (fail)
    obtain ⟨w6, hw6⟩ : ∃ w6, w6 = ((((((((((((w5.setCell ⟨w.heap.size + 1, 0, none⟩ (.int .i64 x7.number)).setCell ⟨w.heap.size + 1, 1, none⟩ (.int .i64 x7.mark)).setCell ⟨w.heap.size + 1, 2, none⟩ (.int .i64 x7.frames)).setCell ⟨w.heap.size + 1, 3, none⟩ (.int .i64 x7.procs)).setCell ⟨w.heap.size + 1, 4, none⟩ (.int .i64 x7.entries)).setCell ⟨w.heap.size + 1, 5, none⟩ (.string x7.name)).setCell ⟨w.heap.size + 1, 6, none⟩ (.string x7.key)).setCell ⟨w.heap.size + 1, 7, none⟩ (.bool x7.live)).setCell ⟨w.heap.size + 2, 0, none⟩ (.int .i64 s7.number)).setCell ⟨w.heap.size + 2, 1, none⟩ (.int .i64 s7.mark)).setCell ⟨w.heap.size + 2, 2, none⟩ (.slice g7.P g7.pl.length g7.cp)).setCell ⟨w.heap.size + 2, 3, none⟩ (.slice g7.E s7.entries.length g7.ce)) := ⟨_, rfl⟩
    rw [← hw6] at R6 ⊢
    clear hw6
    clear o0 o1 o2 o3 o4 o5 o6 o7 fz0 fz1 fz2 fz3 fz4 fz5 fz6 fz7 n0 n1 n2 n3 e0 e1 e2 e3 R5
    have z0 := R6.l2.cell 0; have z1 := R6.l2.cell 1; have z2 := R6.l2.cell 2; have z3 := R6.l2.cell 3
    unfold imgZ at z0 z1 z2 z3
    simp only [List.getElem?_toArray, List.getElem?_cons_zero, List.getElem?_cons_succ] at z0 z1 z2 z3
    have y0 := R6.l2.free 0; have y1 := R6.l2.free 1; have y2 := R6.l2.free 2; have y3 := R6.l2.free 3
    have HZ := Lib.hid R6.finZ
    clear R6
    go_wp2
    have q0 := HZ.out.1.cell 0; have q1 := HZ.out.1.cell 1; have q2 := HZ.out.1.cell 2; have q3 := HZ.out.1.cell 3
    unfold imgZ at q0 q1 q2 q3
    simp only [List.getElem?_toArray, List.getElem?_cons_zero, List.getElem?_cons_succ] at q0 q1 q2 q3
    exact bodyPost_ret (by simp [results, Tryz.results12, go_sem, q0, q1, q2, q3]; rfl) rfl (RrPost.none HX.out HZ.out.2)
   | some s1 =>
    obtain ⟨g1, rfl, I5, _⟩ := h5s s1 rfl
    obtain ⟨hok, hfr⟩ := pgFrame_ok HFE.out HO.out
    have hrel := (rdRel_of HR.out).some (m' := { RM.zero with s := s1, over := ov }) HN.out rfl ha0 HE0.out HFE.out
    rw [← HKW.out] at hrel
    have HFR := Lib.hid hfr
    clear hfr
    have HR1 := Lib.hid hrel
    have HO1 := Lib.hid hok
    obtain ⟨x1, hx1⟩ : ∃ x1, x1 = s1.pw s1.frames := ⟨_, rfl⟩
    rw [← hx1]
    have HX1 := Lib.hid hx1
    clear hx1
    have R6 := R5.put x1 s1 g1
    have I6 := R5.img I5 x1 s1 g1
    unfold putM put4 putV at R6 I6
    unfold okF PW.val imV
    clear h5s h5n HR HFE hok hrel HO I5
    obtain ⟨o0, o1, o2, o3, o4, o5, o6, o7⟩ := R5.lw.cells
    obtain ⟨fz0, fz1, fz2, fz3, fz4, fz5, fz6, fz7⟩ := VLoc.free8 R5.lw
    have n0 : w5.cell? ⟨w.heap.size + 2, 0, none⟩ = some (.int .i64 s.number) := R5.li.cell 0
    have n1 : w5.cell? ⟨w.heap.size + 2, 1, none⟩ = some (.int .i64 s.mark) := R5.li.cell 1
    have n2 : w5.cell? ⟨w.heap.size + 2, 2, none⟩ = some (.slice g.P g.pl.length g.cp) := R5.li.cell 2
    have n3 : w5.cell? ⟨w.heap.size + 2, 3, none⟩ = some (.slice g.E s.entries.length g.ce) := R5.li.cell 3
    have e0 := R5.li.free 0; have e1 := R5.li.free 1; have e2 := R5.li.free 2; have e3 := R5.li.free 3
    go_upto_region 12 with (fail)
    obtain ⟨w6, hw6⟩ : ∃ w6, w6 = ((((((((((((w5.setCell ⟨w.heap.size + 1, 0, none⟩ (.int .i64 x1.number)).setCell ⟨w.heap.size + 1, 1, none⟩ (.int .i64 x1.mark)).setCell ⟨w.heap.size + 1, 2, none⟩ (.int .i64 x1.frames)).setCell ⟨w.heap.size + 1, 3, none⟩ (.int .i64 x1.procs)).setCell ⟨w.heap.size + 1, 4, none⟩ (.int .i64 x1.entries)).setCell ⟨w.heap.size + 1, 5, none⟩ (.string x1.name)).setCell ⟨w.heap.size + 1, 6, none⟩ (.string x1.key)).setCell ⟨w.heap.size + 1, 7, none⟩ (.bool x1.live)).setCell ⟨w.heap.size + 2, 0, none⟩ (.int .i64 s1.number)).setCell ⟨w.heap.size + 2, 1, none⟩ (.int .i64 s1.mark)).setCell ⟨w.heap.size + 2, 2, none⟩ (.slice g1.P g1.pl.length g1.cp)).setCell ⟨w.heap.size + 2, 3, none⟩ (.slice g1.E s1.entries.length g1.ce)) := ⟨_, rfl⟩
    rw [← hw6] at R6 I6 ⊢
    clear hw6
    clear o0 o1 o2 o3 o4 o5 o6 o7 fz0 fz1 fz2 fz3 fz4 fz5 fz6 fz7 n0 n1 n2 n3 e0 e1 e2 e3 R5
    have hat : at_ + 8 + K ≤ n := hk2
    cases ov with
    | true =>
     by_cases han : at_ + 8 + K = n
     ·have HX : Hid (pageRead xs = (s1, 0)) := Lib.hid (by have := HR1.out.1 rfl; rw [if_pos han] at this; exact this)
      have t4 : ¬ (at_ : Int) + 8 + (K : Int) < (n : Int) := by omega
      clear HR1 HO1
      obtain ⟨n0, n1, n2, n3⟩ : w6.cell? ⟨w.heap.size + 2, 0, none⟩ = some (.int .i64 s1.number) ∧ w6.cell? ⟨w.heap.size + 2, 1, none⟩ = some (.int .i64 s1.mark) ∧ w6.cell? ⟨w.heap.size + 2, 2, none⟩ = some (.slice g1.P g1.pl.length g1.cp) ∧ w6.cell? ⟨w.heap.size + 2, 3, none⟩ = some (.slice g1.E s1.entries.length g1.ce) := ⟨R6.li.cell 0, R6.li.cell 1, R6.li.cell 2, R6.li.cell 3⟩
      have z0 := R6.l2.cell 0; have z1 := R6.l2.cell 1; have z2 := R6.l2.cell 2; have z3 := R6.l2.cell 3
      unfold imgZ at z0 z1 z2 z3
      simp only [List.getElem?_toArray, List.getElem?_cons_zero, List.getElem?_cons_succ] at z0 z1 z2 z3
      have y0 := R6.l2.free 0; have y1 := R6.l2.free 1; have y2 := R6.l2.free 2; have y3 := R6.l2.free 3
      have HZ := R6.finS I6
      unfold putM put4 at HZ
      have HZ := Lib.hid HZ
      clear R6 I6
      go_wp2
      have q0 := HZ.out.1.cell 0; have q1 := HZ.out.1.cell 1; have q2 := HZ.out.1.cell 2; have q3 := HZ.out.1.cell 3
      unfold imV at q0 q1 q2 q3
      simp only [List.getElem?_toArray, List.getElem?_cons_zero, List.getElem?_cons_succ] at q0 q1 q2 q3
      exact bodyPost_ret (v := .tuple #[.agg (imV s1 g1), .int .i64 0]) (by simp [results, Tryz.results12, go_sem, q0, q1, q2, q3, imV]) rfl (RrPost.yes HX.out HZ.out.2.1 HZ.out.2.2)
     ·have HX : Hid (pageRead xs = (.zero, 3)) := Lib.hid (by have := HR1.out.1 rfl; rw [if_neg han] at this; exact this)
      have t4 : (at_ : Int) + 8 + (K : Int) < (n : Int) := by omega
      clear HR1 HO1 I6
      have z0 := R6.l2.cell 0; have z1 := R6.l2.cell 1; have z2 := R6.l2.cell 2; have z3 := R6.l2.cell 3
      unfold imgZ at z0 z1 z2 z3
      simp only [List.getElem?_toArray, List.getElem?_cons_zero, List.getElem?_cons_succ] at z0 z1 z2 z3
      have y0 := R6.l2.free 0; have y1 := R6.l2.free 1; have y2 := R6.l2.free 2; have y3 := R6.l2.free 3
      have HZ := Lib.hid R6.finZ
      clear R6
      go_wp2
      have q0 := HZ.out.1.cell 0; have q1 := HZ.out.1.cell 1; have q2 := HZ.out.1.cell 2; have q3 := HZ.out.1.cell 3
      unfold imgZ at q0 q1 q2 q3
      simp only [List.getElem?_toArray, List.getElem?_cons_zero, List.getElem?_cons_succ] at q0 q1 q2 q3
      exact bodyPost_ret (by simp [results, Tryz.results12, go_sem, q0, q1, q2, q3]; rfl) rfl (RrPost.none HX.out HZ.out.2)
    | false =>
     obtain ⟨f1, hf1, hf2⟩ := HR1.out.2 rfl
     have HR2 : Hid (∃ f, n + 1 ≤ f + (at_ + 8 + K) ∧ pageRead xs = pgLoop xs f (at_ + 8 + K) s1) := Lib.hid ⟨f1, hf1, hf2⟩
     clear hf1 hf2
     go_wp2
     go_roundw
     case rel =>
      rw [HX1.out] at R6
      exact ⟨at_ + 8 + K, s1, g1, hat, by go_num, R6, I6, HO1, by have := HFR.out; omega, HR2⟩
     case measure => simp [intOf]; omega
end Go.Proofs.YtnieminnnkbneaaGreat

namespace Go.Proofs.YtnieminnnkbneaaGreat
open Go.RowKit
set_option linter.unusedVariables false

theorem ImgO.under {W V : World} {base : Nat} {m : RM} (h : ImgO W base m) (hb : Below W.heap.size W V) : ImgO V base m :=
 ⟨h.hp, owns_mono' h.op hb, fun y hy => owns_mono' (h.oc y hy) hb, h.sep, owns_mono' h.oe hb⟩
theorem ImgO.from {W : World} {base base' : Nat} {m : RM} (h : ImgO W base' m) (hb : base ≤ base') : ImgO W base m :=
 ⟨h.hp, owns_mono h.op hb, fun y hy => owns_mono (h.oc y hy) hb, h.sep, owns_mono h.oe hb⟩
theorem Img.from {W : World} {B B' : Nat} {s : RS} {g : RG} (h : Img B' W s g) (hb : B ≤ B') : Img B W s g :=
 ⟨h.hp, owns_mono h.op hb, fun y hy => owns_mono (h.oc y hy) hb, owns_mono h.oe hb⟩
/-- A block of another type is written. -/
theorem ImgO.other {B : Nat} {W : World} {m : RM} {b : Nat} {c : Array Value} {t : TypeId} (h : ImgO W B m) (hl : Loc W b c t) (h2 : 54 ≠ t) (h3 : 109 ≠ t) (h4 : 62 ≠ t) (i : Nat) (v : Value) : ImgO (W.setCell ⟨b, i, none⟩ v) B m :=
 ⟨h.hp, owns_setCell (a := ⟨b, i, none⟩) h.op (owns_ne h.op hl h2) v, fun y hy => owns_setCell (a := ⟨b, i, none⟩) (h.oc y hy) (owns_ne (h.oc y hy) hl h3) v, h.sep, owns_setCell (a := ⟨b, i, none⟩) h.oe (owns_ne h.oe hl h4) v⟩

theorem owns_room {w : World} {base : Nat} {e : TypeId} {size n c : Nat} {A : Option Addr} {xs : List Value} (h : w.ownsRow base e size (.slice A n c) n xs) : n ≤ c := by
 rcases h.2 with ⟨h1, h2⟩ | ⟨g, cap, cur, hv, _, _, hnc, _⟩
 ·omega
 ·cases hv
  exact hnc

/-- Both images of the same reading are alike. -/
theorem rimages_any (xs : Bs) (hx : xs.length ≤ 1000000000) (m : RM) (s : RS) (g : RG) (B1 B2 : Nat) (w : World) (hm : m.s = (pageRead xs).1) (hs : s = (pageRead xs).1) (I : ImgO w B1 m) (J : Img B2 w s g) :
  Calls Tryz.prog 13 #[.agg m.img, .agg (imV s g)] w fun e w' => e = .returned (.bool true) ∧ Below w.heap.size w w' := by
 obtain ⟨⟨hp, hl, he⟩, hf⟩ := pageRead_ok xs
 have hms : m.s = s := hm.trans hs.symm
 rw [← hs] at hp hl he hf
 have e1 : m.pl.length = s.procs.length := by rw [← hms, ← I.hp, List.length_map]
 have e2 : g.pl.length = s.procs.length := by rw [← J.hp, List.length_map]
 have o1 : ∀ x ∈ m.pl, x.ok w := fun x hx => by
  have h := hp x.p (by rw [← hms, ← I.hp]; exact List.mem_map_of_mem hx)
  exact ⟨Row.of_owns (I.oc x hx), by omega, h.1⟩
 have o2 : ∀ x ∈ g.pl, x.ok w := fun x hx => by
  have h := hp x.p (by rw [← J.hp]; exact List.mem_map_of_mem hx)
  exact ⟨Row.of_owns (J.oc x hx), by omega, h.1⟩
 have e3 : m.s.entries = s.entries := by rw [hms]
 refine (images_any m.s.number m.s.mark s.number s.mark m.pl g.pl m.s.entries s.entries m.P g.P m.E g.E m.cp g.cp m.ce g.ce w (Row.of_owns I.op) (Row.of_owns J.op) (Row.of_owns I.oe) (Row.of_owns J.oe) (by omega) (by omega) (by rw [e3]; omega) (by omega) o1 o2).mono ?_
 rintro e w' ⟨⟨res, he', hi⟩, hb⟩
 refine ⟨?_, hb⟩
 rw [he', hi.2 ⟨by rw [hms], by rw [hms], by rw [I.hp, J.hp, hms], e3⟩]

/-- What stands behind both readings of a row of one's own. -/
structure VSp (w W : World) (ys : Array Value) (pb qb : Nat) (m : RM) (s : RS) (g : RG) : Prop where
 l : Loc W w.heap.size ys 5
 lp : Loc W pb m.img 41
 lq : Loc W qb (imV s g) 41
 o : ImgO W w.heap.size m
 q : Img w.heap.size W s g
 b : Below w.heap.size w W
namespace VSp
variable {w W V : World} {ys : Array Value} {pb qb : Nat} {m : RM} {s : RS} {g : RG}
theorem below (h : VSp w W ys pb qb m s g) (hb : Below W.heap.size W V) : VSp w V ys pb qb m s g :=
 ⟨h.l.below hb h.l.lt, h.lp.below hb h.lp.lt, h.lq.below hb h.lq.lt, h.o.under hb, h.q.below hb, below_then h.b hb h.b.size⟩
theorem set (h : VSp w W ys pb qb m s g) (k : Nat) (v : Value) : VSp w (W.setCell ⟨w.heap.size, k, none⟩ v) (ys.setIfInBounds k v) pb qb m s g :=
 ⟨h.l.set k v, h.lp.other (a := ⟨w.heap.size, k, none⟩) (h.lp.ne h.l (by decide)) v, h.lq.other (a := ⟨w.heap.size, k, none⟩) (h.lq.ne h.l (by decide)) v, h.o.other h.l (by decide) (by decide) (by decide) k v, h.q.other h.l (by decide) (by decide) (by decide) k v, h.b.setCell (p := ⟨w.heap.size, k, none⟩) (Nat.le_refl _) v⟩
end VSp
end Go.Proofs.YtnieminnnkbneaaGreat
