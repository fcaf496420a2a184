/- Walk of treadleref14's Page. -/
import Derived.Test.YtnieminnnkbneaaGreatMi
import Derived.Deep.RegionHeld3
namespace Go.Proofs.YtnieminnnkbneaaGreat
open Go.RowKit
set_option linter.unusedVariables false

/-- The same, at the end: the writer of bytes, the writer's value, what was given out. -/
structure ES (w W : World) (p q : Nat) (A : Option Addr) (c : Nat) (zs : Bs) (O : Option Addr) (d : Nat) (ys : Bs) (x : PW) : Prop where
 bw : BW w.heap.size W q A c zs
 v3 : VLoc W (w.heap.size + 1) PW.zero
 v6 : VLoc W p x
 o : W.ownsRow w.heap.size 5 1 (.slice O ys.length d) ys.length (cellsB ys)
 b : Below w.heap.size w W
 hp : w.heap.size + 2 ≤ p
 hq : p < q
theorem ES.below {w W V : World} {p q c d : Nat} {A O : Option Addr} {zs ys : Bs} {x : PW} (h : ES w W p q A c zs O d ys x) (hb : Below W.heap.size W V) : ES w V p q A c zs O d ys x :=
 ⟨h.bw.below hb, Loc.below h.v3 hb (Loc.lt h.v3), Loc.below h.v6 hb (Loc.lt h.v6), owns_mono' h.o hb, below_then h.b hb h.b.size, h.hp, h.hq⟩
theorem ES.step {w W V : World} {p q c c' d : Nat} {A A' O : Option Addr} {zs zs' ys : Bs} {x : PW} (h : ES w W p q A c zs O d ys x) (hb : Below W.heap.size W V) (o : V.ownsRow W.heap.size 5 1 (.slice A' zs'.length c') zs'.length (cellsB zs')) :
  ES w (put2 V q (.slice A' zs'.length c') (.int .i64 0)) p q A' c' zs' O d ys x ∧ V.cell? ⟨q, 0, none⟩ = some (.slice A zs.length c) ∧ V.cell? ⟨q, 1, none⟩ = some (.int .i64 0) ∧ V.frozen? ⟨q, 0, none⟩ = false ∧ V.frozen? ⟨q, 1, none⟩ = false := by
 obtain ⟨B', r⟩ := h.bw.step hb o h.b.size
 have g := h.below hb
 have hq := h.hq
 have hp := h.hp
 exact ⟨⟨B', put2_loc g.v3 (by omega), put2_loc g.v6 (by omega), put2_own g.o (owns_ne g.o g.bw.t (by decide)), put2_below g.b (by omega), h.hp, h.hq⟩, r⟩

/-- What the document's End answers. -/
def r14End (x : PW) : (Bs × PW) × Int := if x.live = false then (([], x), 25) else (((pwHead x).1 ++ endFrame (pwHead x).2, { (pwHead x).2 with frames := (pwHead x).2.frames + 1, live := false }), 0)
def R14P (w : World) (q : (Bs × PW) × Int) (e : Ending) (w' : World) : Prop :=
 ∃ A c, e = .returned (.tuple #[.slice A q.1.1.length c, .agg q.1.2.val, .int .i64 q.2]) ∧ w'.ownsRow w.heap.size 5 1 (.slice A q.1.1.length c) q.1.1.length (cellsB q.1.1) ∧ Below w.heap.size w w'

set_option maxRecDepth 100000 in
set_option maxHeartbeats 4000000 in
theorem r14end_any (x : PW) (w : World) (hn1 : x.number ≤ 281474976710655) (hn2 : x.mark ≤ 281474976710655) (hf : x.frames ≤ 281474976710600) (hp : x.procs ≤ 281474976710655) (he : x.entries ≤ 281474976710655) :
  Calls Tryz.prog 17 #[.agg x.val] w (R14P w (r14End x)) := by
 have V1 : VLoc ((w.alloc (.cells x.val 29)).alloc (.cells PW.zero.val 29)) w.heap.size x := (Loc.new w x.val 29).alloc _
 have V3 : VLoc ((w.alloc (.cells x.val 29)).alloc (.cells PW.zero.val 29)) (w.heap.size + 1) PW.zero := by
  have h := Loc.new (w.alloc (.cells x.val 29)) PW.zero.val 29
  rw [World.size_alloc] at h
  exact h
 have b1 := ((Below.refl w.heap.size w).alloc (Nat.le_refl _) (.cells x.val 29)).alloc (by simp) (.cells PW.zero.val 29)
 obtain ⟨W0, hW0⟩ : ∃ W0, W0 = ((w.alloc (.cells x.val 29)).alloc (.cells PW.zero.val 29)) := ⟨_, rfl⟩
 rw [← hW0] at V1 V3 b1
 have hsz0 : W0.heap.size = w.heap.size + 2 := by rw [hW0]; simp
 have HW0 : Hid (((w.alloc (.cells #[.int .i64 x.number, .int .i64 x.mark, .int .i64 x.frames, .int .i64 x.procs, .int .i64 x.entries, .string x.name, .string x.key, .bool x.live] 29)).alloc (.cells #[.int .i64 0, .int .i64 0, .int .i64 0, .int .i64 0, .int .i64 0, .string ⟨#[]⟩, .string ⟨#[]⟩, .bool false] 29)) = W0) := Lib.hid hW0.symm
 clear hW0
 cases hlv : x.live with
 | false =>
  have hq : r14End x = (([], x), 25) := by unfold r14End; rw [if_pos hlv]
  have k1 := V1.cells
  have k2 := V3.cells
  have k3 := V3.free8
  have Vf : VLoc (putV W0 (w.heap.size + 1) x).drew (w.heap.size + 1) x := Loc.drew (putV_loc V3 x)
  have bf := below_drewN (putV_below b1 (Nat.le_succ w.heap.size) x) 1
  have hfin := Vf.cells
  have hres : R14P w (r14End x) (.returned (.tuple #[.slice none 0 0, .agg x.val, .int .i64 25])) (putV W0 (w.heap.size + 1) x).drew := by rw [hq]; exact ⟨none, 0, rfl, World.ownsRow_nil _ _ _ _, bf⟩
  have HRES := Lib.hid hres
  have HFIN := Lib.hid hfin
  have HLV := Lib.hid hlv
  rw [hlv] at k1
  rw [hlv] at HW0
  clear hq hres hfin Vf bf
  unfold PW.val
  rw [hlv]
  clear hlv
  go_enter Tryz.func17, Tryz.ntmps17
  go_upto_region 1 with (fail)
  rw [HW0.out]
  obtain ⟨k10, k11, k12, k13, k14, k15, k16, k17⟩ := k1
  obtain ⟨m0, m1, m2, m3, m4, m5, m6, m7⟩ := k2
  obtain ⟨f0, f1, f2, f3, f4, f5, f6, f7⟩ := k3
  go_upto_region 2 with (fail)
  go_region
  all_goals
   go_wp2
   have hres := HRES.out
   obtain ⟨e0, e1, e2, e3, e4, e5, e6, e7⟩ := HFIN.out
   unfold putV at hres e0 e1 e2 e3 e4 e5 e6 e7
   rw [HLV.out] at hres e0 e1 e2 e3 e4 e5 e6 e7
   exact bodyPost_ret (v := .tuple #[.slice none 0 0, .agg x.val, .int .i64 25]) (by simp [results, Tryz.results17, go_sem, e0, e1, e2, e3, e4, e5, e6, e7, PW.val, HLV.out]) rfl hres
 | true =>
  have hbb := pwHead_b x
  have hH := r14head_any x W0 hn1 hn2 (by omega)
  obtain ⟨y1, hy1⟩ : ∃ y1, y1 = (pwHead x).1 := ⟨_, rfl⟩
  obtain ⟨x1, hx1⟩ : ∃ x1, x1 = (pwHead x).2 := ⟨_, rfl⟩
  have hQ : r14End x = ((y1 ++ endFrame x1, { x1 with frames := x1.frames + 1, live := false }), 0) := by unfold r14End; rw [if_neg (by simp [hlv]), hy1, hx1]
  unfold HeadP at hH
  rw [← hy1, ← hx1] at hH
  rw [← hx1, ← hy1] at hbb
  have HH := Lib.hid hH
  have HQ := Lib.hid hQ
  have HBB := Lib.hid hbb
  have k1 := V1.cells
  rw [hlv] at k1
  rw [hlv] at HW0
  clear hH hQ hy1 hx1 hbb
  unfold PW.val at HH ⊢
  rw [hlv] at HH ⊢
  clear hlv
  go_enter Tryz.func17, Tryz.ntmps17
  go_upto_region 1 with (fail)
  rw [HW0.out]
  obtain ⟨k10, k11, k12, k13, k14, k15, k16, k17⟩ := k1
  go_upto_region 4 with (go_at_call 43; refine HH.out.mono ?_; rintro e w2 ⟨A2, c2, rfl, o2, b2⟩)
  have hf1 := HBB.out.1
  have hp1 := HBB.out.2.1
  have he1 := HBB.out.2.2.1
  have hl1 := HBB.out.2.2.2.1
  have V6 : VLoc (w2.alloc (.cells x1.val 29)) w2.heap.size x1 := Loc.new w2 x1.val _
  have V32 := Loc.alloc (Loc.below V3 b2 V3.lt) (.cells x1.val 29)
  have ba := (Below.refl w2.heap.size w2).alloc (Nat.le_refl _) (.cells x1.val 29)
  have b12 := below_then (below_then b1 b2 b1.size) ba (below_then b1 b2 b1.size).size
  have o12 := owns_mono' (owns_mono o2 b1.size) ba
  have hsz2 := b2.size
  obtain ⟨p6, hp6⟩ : ∃ p6, p6 = w2.heap.size := ⟨_, rfl⟩
  obtain ⟨W2, hW2⟩ : ∃ W2, W2 = w2.alloc (.cells x1.val 29) := ⟨_, rfl⟩
  rw [← hW2] at V6 V32 b12 o12
  rw [← hp6] at V6 hsz2
  have hp6W : W2.heap.size = p6 + 1 := by rw [hW2, hp6]; simp
  unfold PW.val at hW2
  rw [← hW2, ← hp6]
  obtain ⟨z0, hz0⟩ : ∃ z0, z0 = bodyF 4 x1.frames [] := ⟨_, rfl⟩
  have hl0 : z0.length ≤ 11 := by rw [hz0]; exact (bodyF_le 4 x1.frames []).2
  have HBE := Lib.hid (begun_any 4 x1.frames (by omega) W2)
  have HBE' : Hid (Calls Tryz.prog 44 #[.int .u8 4, .int .i64 x1.frames] W2 (RW z0 W2)) := Lib.hid (by rw [hz0]; exact HBE.out)
  have HZ0 := Lib.hid hz0
  obtain ⟨k20, k21, k22, k23, k24, k25, k26, k27⟩ := VLoc.cells V6
  clear hW2 hp6 HBE hz0 b2 o2 ba V1 V3 HH k10 k11 k12 k13 k14 k15 k16 k17 b1
  go_upto_region 5 with (go_at_call 44; refine HBE'.out.mono ?_; rintro e w3 ⟨A3, c3, rfl, o3, b3⟩)
  have B3 := BW.new (B := w.heap.size) o3 b12.size
  have ba := (Below.refl w3.heap.size w3).alloc (Nat.le_refl _) (.cells #[.slice A3 z0.length c3, .int .i64 0] 104)
  have b3a := below_then b3 ba b3.size
  have hsz3 := b3.size
  obtain ⟨q, hq⟩ : ∃ q, q = w3.heap.size := ⟨_, rfl⟩
  obtain ⟨W3, hW3⟩ : ∃ W3, W3 = w3.alloc (.cells #[.slice A3 z0.length c3, .int .i64 0] 104) := ⟨_, rfl⟩
  rw [← hW3, ← hq] at B3
  rw [← hW3] at b3a
  rw [← hq] at hsz3
  rw [← hW3, ← hq]
  have S3 : ES w W3 p6 q A3 c3 z0 A2 c2 y1 x1 := ⟨B3, Loc.below V32 b3a V32.lt, Loc.below V6 b3a V6.lt, owns_mono' o12 b3a, below_then b12 b3a b12.size, by omega, by omega⟩
  obtain ⟨z1, hz1⟩ : ∃ z1, z1 = z0 ++ encNumber (x1.procs : Int) := ⟨_, rfl⟩
  obtain ⟨z2, hz2⟩ : ∃ z2, z2 = z1 ++ encNumber (x1.entries : Int) := ⟨_, rfl⟩
  have hlz1 : z1.length ≤ 21 := by rw [hz1, List.length_append]; have := encNumber_le (x1.procs : Int); omega
  have hlz2 : z2.length ≤ 31 := by rw [hz2, List.length_append]; have := encNumber_le (x1.entries : Int); omega
  have hnu := S3.bw.num x1.procs (by omega) (by omega)
  rw [← hz1] at hnu
  have HNU := Lib.hid hnu
  have HZ : Hid (headB z2 ++ z2 = endFrame x1) := Lib.hid (by
   have e : bodyF 4 x1.frames (encNumber (x1.procs : Int) ++ encNumber (x1.entries : Int)) = z2 := by rw [bodyF_more, hz2, hz1, HZ0.out, List.append_assoc]
   unfold endFrame frameB
   rw [e])
  have HZ2 := Lib.hid hz2
  have HPE : Hid (x1.entries ≤ 281474976710655) := Lib.hid (by omega)
  have HFR1 : Hid (x1.frames ≤ 281474976710655) := Lib.hid (by omega)
  have c30 := S3.bw.t.cell 0
  have c31 := S3.bw.t.cell 1
  obtain ⟨_, _, _, d33, d34, _, _, _⟩ := VLoc.cells S3.v6
  simp only [List.getElem?_toArray, List.getElem?_cons_zero, List.getElem?_cons_succ] at c30 c31
  clear hnu hz1 hz2 hW3 hq o3 b3 V32 b12 B3 HBE' HZ0 k20 k21 k22 k23 k24 k25 k26 k27 hf1 hp1 he1 ba b3a o12 V6 HBB
  go_upto_region 6 with (go_at_call 45; refine HNU.out.mono ?_; rintro e w4 ⟨A4, c4, rfl, o4, b4⟩; obtain ⟨S4, y0, y11, g0, g1⟩ := S3.step b4 o4)
  obtain ⟨W4, hW4⟩ : ∃ W4, W4 = put2 w4 q (.slice A4 z1.length c4) (.int .i64 0) := ⟨_, rfl⟩
  rw [← hW4] at S4
  unfold put2 at hW4
  rw [← hW4]
  have hnu := S4.bw.num x1.entries HPE.out (by omega)
  rw [← HZ2.out] at hnu
  have HNU2 := Lib.hid hnu
  have c40 := S4.bw.t.cell 0
  have c41 := S4.bw.t.cell 1
  obtain ⟨_, _, _, _, d44, _, _, _⟩ := VLoc.cells S4.v6
  simp only [List.getElem?_toArray, List.getElem?_cons_zero, List.getElem?_cons_succ] at c40 c41
  clear hnu hW4 o4 b4 S3 y0 y11 g0 g1 c30 c31 d33 d34 HNU
  go_upto_region 7 with (go_at_call 45; refine HNU2.out.mono ?_; rintro e w6 ⟨A6, c6, rfl, o6, b6⟩; obtain ⟨S6, y0, y11, g0, g1⟩ := S4.step b6 o6)
  obtain ⟨W6, hW6⟩ : ∃ W6, W6 = put2 w6 q (.slice A6 z2.length c6) (.int .i64 0) := ⟨_, rfl⟩
  rw [← hW6] at S6
  unfold put2 at hW6
  rw [← hW6]
  obtain ⟨x2, hx2⟩ : ∃ x2 : PW, x2 = { x1 with frames := x1.frames + 1 } := ⟨_, rfl⟩
  obtain ⟨x3, hx3⟩ : ∃ x3 : PW, x3 = { x2 with live := false } := ⟨_, rfl⟩
  obtain ⟨zf, hzf⟩ : ∃ zf, zf = y1 ++ endFrame x1 := ⟨_, rfl⟩
  have HFR := Lib.hid (framedQ_any x1 x2 hx2 A2 A6 y1.length z2.length c2 c6 w.heap.size y1 z2 zf (by rw [HZ.out, hzf]) W6 S6.o S6.b.size rfl (Row.of_owns S6.bw.o) rfl (owns_none S6.bw.o) (by omega) (by omega) HFR1.out)
  have HQ2 : Hid (r14End x = ((zf, x3), 0)) := Lib.hid (by rw [HQ.out, hzf, hx3, hx2])
  have HX3 : Hid (x3.number = x2.number ∧ x3.mark = x2.mark ∧ x3.frames = x2.frames ∧ x3.procs = x2.procs ∧ x3.entries = x2.entries ∧ x3.name = x2.name ∧ x3.key = x2.key ∧ x3.live = false) := Lib.hid (by rw [hx3]; exact ⟨rfl, rfl, rfl, rfl, rfl, rfl, rfl, rfl⟩)
  have c60 := S6.bw.t.cell 0
  obtain ⟨d60, d61, d62, d63, d64, d65, d66, d67⟩ := VLoc.cells S6.v6
  simp only [List.getElem?_toArray, List.getElem?_cons_zero] at c60
  clear hx2 hx3 hzf hW6 o6 b6 S4 y0 y11 g0 g1 c40 c41 d44 HNU2
  go_upto_region 8 with (go_at_call 46; refine HFR.out.mono ?_; rintro e w8 ⟨A8, c8, rfl, o8, K8⟩; have V86 : VLoc w8 p6 x1 := Loc.keep S6.v6 K8 (Loc.lt S6.v6) (owns_ne S6.o S6.v6 (by decide)); obtain ⟨m0, m1, m2, m3, m4, m5, m6, m7⟩ := V86.cells; obtain ⟨f0, f1, f2, f3, f4, f5, f6, f7⟩ := V86.free8)
  have V83 : VLoc w8 (w.heap.size + 1) PW.zero := Loc.keep S6.v3 K8 (Loc.lt S6.v3) (owns_ne S6.o S6.v3 (by decide))
  have b8 := below_keep S6.b K8 S6.b.size (fun k hk => (S6.o.lt k hk).1)
  have h36 := S6.hp
  have V8 : VLoc (putV w8 p6 x2) p6 x2 := putV_loc V86 x2
  have V83' : VLoc (putV w8 p6 x2) (w.heap.size + 1) PW.zero := putV_other V83 (by omega) x2
  have o8' := putV_own o8 (owns_ne o8 V86 (by decide)) x2
  have b8' := putV_below b8 (by omega : w.heap.size ≤ p6) x2
  obtain ⟨W8, hW8⟩ : ∃ W8, W8 = putV w8 p6 x2 := ⟨_, rfl⟩
  rw [← hW8] at V8 V83' o8' b8'
  unfold putV at hW8
  rw [← hW8]
  have n7 := (VLoc.cells V8).2.2.2.2.2.2.2
  have n7f := Loc.free V8 7
  have hx3v : x2.val.setIfInBounds 7 (.bool false) = x3.val := by
   obtain ⟨e0, e1, e2, e3, e4, e5, e6, e7⟩ := HX3.out
   unfold PW.val
   rw [e0, e1, e2, e3, e4, e5, e6, e7]
   rfl
  have V9 : VLoc (W8.setCell ⟨p6, 7, none⟩ (.bool false)) p6 x3 := by
   have h := Loc.set V8 7 (.bool false)
   rw [hx3v] at h
   exact h
  have V93 : VLoc (W8.setCell ⟨p6, 7, none⟩ (.bool false)) (w.heap.size + 1) PW.zero := Loc.other V83' (a := ⟨p6, 7, none⟩) (show w.heap.size + 1 ≠ p6 by omega) _
  have o9 := owns_setCell (a := ⟨p6, 7, none⟩) o8' (owns_ne o8' V8 (by decide)) (.bool false)
  have b9 := b8'.setCell (p := ⟨p6, 7, none⟩) (show w.heap.size ≤ p6 by omega) (.bool false)
  clear hW8 V86 V83 o8 b8 K8 m0 m1 m2 m3 m4 m5 m6 m7 f0 f1 f2 f3 f4 f5 f6 f7 d60 d61 d62 d63 d64 d65 d66 d67 c60 S6 HFR hx3v
  go_upto_region 9 with (fail)
  obtain ⟨W9, hW9⟩ : ∃ W9, W9 = W8.setCell ⟨p6, 7, none⟩ (.bool false) := ⟨_, rfl⟩
  rw [← hW9] at V9 V93 o9 b9
  rw [← hW9]
  clear hW9 V8 V83' o8' b8' n7 n7f
  obtain ⟨k10, k11, k12, k13, k14, k15, k16, k17⟩ := V9.cells
  obtain ⟨m0, m1, m2, m3, m4, m5, m6, m7⟩ := V93.cells
  obtain ⟨f0, f1, f2, f3, f4, f5, f6, f7⟩ := V93.free8
  have Vf : VLoc (putV W9 (w.heap.size + 1) x3).drew (w.heap.size + 1) x3 := Loc.drew (putV_loc V93 x3)
  have bf := below_drewN (putV_below b9 (Nat.le_succ w.heap.size) x3) 1
  have of : (putV W9 (w.heap.size + 1) x3).drew.ownsRow w.heap.size 5 1 (.slice A8 zf.length c8) zf.length (cellsB zf) := owns_mono' (putV_own o9 (owns_ne o9 V93 (by decide)) x3) (below_drewN (Below.refl _ _) 1)
  have hfin := Vf.cells
  have hres : R14P w (r14End x) (.returned (.tuple #[.slice A8 zf.length c8, .agg x3.val, .int .i64 0])) (putV W9 (w.heap.size + 1) x3).drew := by rw [HQ2.out]; exact ⟨A8, c8, rfl, of, bf⟩
  have HRES := Lib.hid hres
  have HFIN := Lib.hid hfin
  clear hres hfin Vf bf of o9 b9
  go_region
  all_goals
   go_wp2
   have hres := HRES.out
   obtain ⟨e0, e1, e2, e3, e4, e5, e6, e7⟩ := HFIN.out
   unfold putV at hres e0 e1 e2 e3 e4 e5 e6 e7
   exact bodyPost_ret (v := .tuple #[.slice A8 zf.length c8, .agg x3.val, .int .i64 0]) (by simp [results, Tryz.results17, go_sem, e0, e1, e2, e3, e4, e5, e6, e7, PW.val]) rfl hres
end Go.Proofs.YtnieminnnkbneaaGreat

namespace Go.Proofs.YtnieminnnkbneaaGreat
open Go.RowKit
set_option linter.unusedVariables false

/-- The blocks of Page: the writer that came, the result, the writer in work; what was given out. -/
structure GS (w W : World) (p : Nat) (x xk : PW) (O : Option Addr) (d : Nat) (ys : Bs) : Prop where
 v1 : VLoc W w.heap.size x
 v7 : VLoc W (w.heap.size + 1) PW.zero
 v11 : VLoc W p xk
 o : W.ownsRow w.heap.size 5 1 (.slice O ys.length d) ys.length (cellsB ys)
 b : Below w.heap.size w W
 hp : w.heap.size + 2 ≤ p
namespace GS
variable {w W V : World} {p : Nat} {x xk : PW} {O : Option Addr} {d : Nat} {ys : Bs}
theorem below (h : GS w W p x xk O d ys) (hb : Below W.heap.size W V) : GS w V p x xk O d ys :=
 ⟨Loc.below h.v1 hb (Loc.lt h.v1), Loc.below h.v7 hb (Loc.lt h.v7), Loc.below h.v11 hb (Loc.lt h.v11), owns_mono' h.o hb, below_then h.b hb h.b.size, h.hp⟩
theorem set (h : GS w W p x xk O d ys) (i : Nat) (v : Value) {x2 : PW} (hx : xk.val.setIfInBounds i v = x2.val) : GS w (W.setCell ⟨p, i, none⟩ v) p x x2 O d ys := by
 have hp := h.hp
 refine ⟨Loc.other h.v1 (a := ⟨p, i, none⟩) (show w.heap.size ≠ p by omega) v, Loc.other h.v7 (a := ⟨p, i, none⟩) (show w.heap.size + 1 ≠ p by omega) v, ?_, owns_setCell (a := ⟨p, i, none⟩) h.o (owns_ne h.o h.v11 (by decide)) v, h.b.setCell (p := ⟨p, i, none⟩) (show w.heap.size ≤ p by omega) v, h.hp⟩
 have h1 := Loc.set h.v11 i v
 rw [hx] at h1
 exact h1
theorem framed (h : GS w W p x xk O d ys) {x2 : PW} {A' : Option Addr} {c' : Nat} {zs : Bs} (o : V.ownsRow w.heap.size 5 1 (.slice A' zs.length c') zs.length (cellsB zs)) (K : Keep W.heap.size (fun k => (Value.slice O ys.length d).ownBlock = some k) W V) :
  GS w (putV V p x2) p x x2 A' c' zs ∧ VLoc V p xk := by
 have hp := h.hp
 have v1 : VLoc V w.heap.size x := Loc.keep h.v1 K (Loc.lt h.v1) (owns_ne h.o h.v1 (by decide))
 have v7 : VLoc V (w.heap.size + 1) PW.zero := Loc.keep h.v7 K (Loc.lt h.v7) (owns_ne h.o h.v7 (by decide))
 have v11 : VLoc V p xk := Loc.keep h.v11 K (Loc.lt h.v11) (owns_ne h.o h.v11 (by decide))
 exact ⟨⟨putV_other v1 (by omega) x2, putV_other v7 (by omega) x2, putV_loc v11 x2, putV_own o (owns_ne o v11 (by decide)) x2, putV_below (below_keep h.b K h.b.size (fun k hk => (h.o.lt k hk).1)) (by omega) x2, h.hp⟩, v11⟩
theorem put2 {q : Nat} {c : Array Value} {u v : Value} (h : GS w W p x xk O d ys) (L : Loc W q c 104) (hq : w.heap.size ≤ q) : GS w (put2 W q u v) p x xk O d ys :=
 ⟨put2_loc h.v1 (Loc.ne h.v1 L (by decide)), put2_loc h.v7 (Loc.ne h.v7 L (by decide)), put2_loc h.v11 (Loc.ne h.v11 L (by decide)), put2_own h.o (owns_ne h.o L (by decide)), put2_below h.b hq, h.hp⟩
theorem keepP {xj : PW} (h : GS w W p x xk O d ys) (K : Keep W.heap.size (· = p) W V) (v : VLoc V p xj) : GS w V p x xj O d ys := by
 have hp := h.hp
 exact ⟨Loc.keep h.v1 K (Loc.lt h.v1) (by omega), Loc.keep h.v7 K (Loc.lt h.v7) (by omega), v, owns_keep h.o K (Nat.le_refl _) (fun k hk e => owns_ne h.o h.v11 (by decide) (e ▸ hk)), below_keep h.b K h.b.size (fun k hk => by omega), h.hp⟩
end GS

/-- The first three of them. -/
structure GSb (w W : World) (x : PW) : Prop where
 v1 : VLoc W w.heap.size x
 v7 : VLoc W (w.heap.size + 1) PW.zero
 b : Below w.heap.size w W

set_option maxRecDepth 100000 in
set_option maxHeartbeats 8000000 in
theorem r14page_any (x : PW) (pl : List PrcC) (es : List Ent) (A B : Option Addr) (ca cb : Nat) (w : World) (hrp : Row w A (prcsCells pl)) (hpo : ∀ y ∈ pl, y.ok w) (hre : Row w B (entsCells es)) (heo : ∀ y ∈ es, y.inR)
  (hpl : pl.length ≤ 140737488355328) (hel : es.length ≤ 140737488355328) (hn1 : x.number ≤ 281474976710655) (hn2 : x.mark ≤ 281474976710655) (hf : x.frames ≤ 281474976710000) (hpr : x.procs ≤ 281474976710000) (hen : x.entries ≤ 281474976710000) :
  Calls Tryz.prog 19 #[.agg x.val, .slice A pl.length ca, .slice B es.length cb] w (R14P w (pwPage x (pl.map (·.p)) es)) := by
 obtain ⟨np, hnp⟩ : ∃ np, np = pl.length := ⟨_, rfl⟩
 obtain ⟨ne, hne⟩ : ∃ ne, ne = es.length := ⟨_, rfl⟩
 rw [← hnp] at hpl ⊢
 rw [← hne] at hel ⊢
 obtain ⟨Q, hQ⟩ : ∃ Q, Q = pwPage x (pl.map (·.p)) es := ⟨_, rfl⟩
 rw [← hQ]
 have HRP := Lib.hid hrp
 have HPO := Lib.hid hpo
 have HRE := Lib.hid hre
 have HEO := Lib.hid heo
 have HNP := Lib.hid hnp
 have HNE := Lib.hid hne
 have HQ := Lib.hid hQ
 have V1 : VLoc ((w.alloc (.cells x.val 29)).alloc (.cells PW.zero.val 29)) w.heap.size x := (Loc.new w x.val 29).alloc _
 have V3 : VLoc ((w.alloc (.cells x.val 29)).alloc (.cells PW.zero.val 29)) (w.heap.size + 1) PW.zero := by
  have h := Loc.new (w.alloc (.cells x.val 29)) PW.zero.val 29
  rw [World.size_alloc] at h
  exact h
 have b1 := ((Below.refl w.heap.size w).alloc (Nat.le_refl _) (.cells x.val 29)).alloc (by simp) (.cells PW.zero.val 29)
 obtain ⟨W0, hW0⟩ : ∃ W0, W0 = ((w.alloc (.cells x.val 29)).alloc (.cells PW.zero.val 29)) := ⟨_, rfl⟩
 rw [← hW0] at V1 V3 b1
 have hsz0 : W0.heap.size = w.heap.size + 2 := by rw [hW0]; simp
 have HW0 : Hid (((w.alloc (.cells #[.int .i64 x.number, .int .i64 x.mark, .int .i64 x.frames, .int .i64 x.procs, .int .i64 x.entries, .string x.name, .string x.key, .bool x.live] 29)).alloc (.cells #[.int .i64 0, .int .i64 0, .int .i64 0, .int .i64 0, .int .i64 0, .string ⟨#[]⟩, .string ⟨#[]⟩, .bool false] 29)) = W0) := Lib.hid hW0.symm
 clear hW0 hrp hpo hre heo hnp hne hQ
 have S0 : GSb w W0 x := ⟨V1, V3, b1⟩
 clear V1 V3 b1
 cases hlv : x.live with
 | false =>
  have HX : Hid (Q = (([], x), 25)) := Lib.hid (by rw [HQ.out]; unfold pwPage; rw [if_pos hlv])
  have HLV := Lib.hid hlv
  have k1 := VLoc.cells S0.v1
  rw [hlv] at k1
  rw [hlv] at HW0
  unfold PW.val
  rw [hlv]
  clear hlv HQ
  go_enter Tryz.func19, Tryz.ntmps19
  go_upto_region 1 with (fail)
  rw [HW0.out]
  obtain ⟨k10, k11, k12, k13, k14, k15, k16, k17⟩ := k1
  have k1b := VLoc.cells S0.v1
  rw [HLV.out] at k1b
  have hres : R14P w Q (.returned (.tuple #[.slice none 0 0, .agg x.val, .int .i64 25])) (putV W0 (w.heap.size + 1) x).drew := by rw [HX.out]; exact ⟨none, 0, rfl, World.ownsRow_nil _ _ _ _, below_drewN (putV_below S0.b (Nat.le_succ w.heap.size) x) 1⟩
  have hfin : VLoc (putV W0 (w.heap.size + 1) x).drew (w.heap.size + 1) x := Loc.drew (putV_loc S0.v7 x)
  have HRES := Lib.hid hres
  have HFIN := Lib.hid hfin.cells
  obtain ⟨m0, m1, m2, m3, m4, m5, m6, m7⟩ := VLoc.cells S0.v7
  obtain ⟨f0, f1, f2, f3, f4, f5, f6, f7⟩ := VLoc.free8 S0.v7
  clear hres hfin
  go_upto_region 2 with (fail)
  go_region
  all_goals
   go_wp2
   have hres := HRES.out
   obtain ⟨e0, e1, e2, e3, e4, e5, e6, e7⟩ := HFIN.out
   unfold putV at hres e0 e1 e2 e3 e4 e5 e6 e7
   rw [HLV.out] at hres e0 e1 e2 e3 e4 e5 e6 e7
   exact bodyPost_ret (v := .tuple #[.slice none 0 0, .agg x.val, .int .i64 25]) (by simp [results, Tryz.results19, go_sem, e0, e1, e2, e3, e4, e5, e6, e7, PW.val, HLV.out]) rfl hres
 | true =>
  have HLV := Lib.hid hlv
  by_cases hcnt : np + ne = 0 ∨ 128 < np + ne
  ·have HX : Hid (Q = (([], x), 1)) := Lib.hid (by rw [HQ.out]; unfold pwPage; rw [if_neg (by simp [hlv]), if_pos (by rw [List.length_map, ← HNP.out, ← HNE.out]; exact hcnt)])
   have k1 := VLoc.cells S0.v1
   rw [hlv] at k1
   rw [hlv] at HW0
   unfold PW.val
   rw [hlv]
   clear hlv HQ
   rcases hcnt with hc | hc
   ·obtain rfl : np = 0 := by omega
    obtain rfl : ne = 0 := by omega
    go_enter Tryz.func19, Tryz.ntmps19
    go_upto_region 1 with (fail)
    rw [HW0.out]
    obtain ⟨k10, k11, k12, k13, k14, k15, k16, k17⟩ := k1
    have k1b := VLoc.cells S0.v1
    rw [HLV.out] at k1b
    have hres : R14P w Q (.returned (.tuple #[.slice none 0 0, .agg x.val, .int .i64 1])) (putV W0 (w.heap.size + 1) x).drew := by rw [HX.out]; exact ⟨none, 0, rfl, World.ownsRow_nil _ _ _ _, below_drewN (putV_below S0.b (Nat.le_succ w.heap.size) x) 1⟩
    have hfin : VLoc (putV W0 (w.heap.size + 1) x).drew (w.heap.size + 1) x := Loc.drew (putV_loc S0.v7 x)
    have HRES := Lib.hid hres
    have HFIN := Lib.hid hfin.cells
    obtain ⟨m0, m1, m2, m3, m4, m5, m6, m7⟩ := VLoc.cells S0.v7
    obtain ⟨f0, f1, f2, f3, f4, f5, f6, f7⟩ := VLoc.free8 S0.v7
    clear hres hfin
    go_upto_region 5 with (fail)
    go_region
    all_goals
     go_wp2
     have hres := HRES.out
     obtain ⟨e0, e1, e2, e3, e4, e5, e6, e7⟩ := HFIN.out
     unfold putV at hres e0 e1 e2 e3 e4 e5 e6 e7
     rw [HLV.out] at hres e0 e1 e2 e3 e4 e5 e6 e7
     exact bodyPost_ret (v := .tuple #[.slice none 0 0, .agg x.val, .int .i64 1]) (by simp [results, Tryz.results19, go_sem, e0, e1, e2, e3, e4, e5, e6, e7, PW.val, HLV.out]) rfl hres
   ·have t1 : ¬ ((np : Int) + (ne : Int)) < 1 := by omega
    have t2 : (128 : Int) < (np : Int) + (ne : Int) := by omega
    go_enter Tryz.func19, Tryz.ntmps19
    go_upto_region 1 with (fail)
    rw [HW0.out]
    obtain ⟨k10, k11, k12, k13, k14, k15, k16, k17⟩ := k1
    have k1b := VLoc.cells S0.v1
    rw [HLV.out] at k1b
    have hres : R14P w Q (.returned (.tuple #[.slice none 0 0, .agg x.val, .int .i64 1])) (putV W0 (w.heap.size + 1) x).drew := by rw [HX.out]; exact ⟨none, 0, rfl, World.ownsRow_nil _ _ _ _, below_drewN (putV_below S0.b (Nat.le_succ w.heap.size) x) 1⟩
    have hfin : VLoc (putV W0 (w.heap.size + 1) x).drew (w.heap.size + 1) x := Loc.drew (putV_loc S0.v7 x)
    have HRES := Lib.hid hres
    have HFIN := Lib.hid hfin.cells
    obtain ⟨m0, m1, m2, m3, m4, m5, m6, m7⟩ := VLoc.cells S0.v7
    obtain ⟨f0, f1, f2, f3, f4, f5, f6, f7⟩ := VLoc.free8 S0.v7
    clear hres hfin
    go_upto_region 5 with (fail)
    go_region
    all_goals
     go_wp2
     have hres := HRES.out
     obtain ⟨e0, e1, e2, e3, e4, e5, e6, e7⟩ := HFIN.out
     unfold putV at hres e0 e1 e2 e3 e4 e5 e6 e7
     rw [HLV.out] at hres e0 e1 e2 e3 e4 e5 e6 e7
     exact bodyPost_ret (v := .tuple #[.slice none 0 0, .agg x.val, .int .i64 1]) (by simp [results, Tryz.results19, go_sem, e0, e1, e2, e3, e4, e5, e6, e7, PW.val, HLV.out]) rfl hres
  ·have hq := pwPage_eq (x := x) (ps := pl.map (·.p)) (es := es) hlv (by rw [List.length_map, ← HNP.out, ← HNE.out]; exact hcnt)
   rw [← HQ.out] at hq
   have t1 : ¬ ((np : Int) + (ne : Int)) < 1 := by omega
   have t2 : ¬ (128 : Int) < (np : Int) + (ne : Int) := by omega
   have hnn : np + ne ≤ 128 := by omega
   have hH := r14head_any x W0 hn1 hn2 (by omega)
   have hbb := pwHead_b x
   obtain ⟨y1, hy1⟩ : ∃ y1, y1 = (pwHead x).1 := ⟨_, rfl⟩
   obtain ⟨x1, hx1⟩ : ∃ x1, x1 = (pwHead x).2 := ⟨_, rfl⟩
   unfold HeadP at hH
   rw [← hy1, ← hx1] at hH
   rw [← hx1, ← hy1] at hbb hq
   have HH := Lib.hid hH
   have HQ2 := Lib.hid hq
   have HBB := Lib.hid hbb
   have k1 := VLoc.cells S0.v1
   rw [hlv] at k1
   rw [hlv] at HW0
   unfold PW.val at HH ⊢
   rw [hlv] at HH ⊢
   clear hH hq hy1 hx1 hbb hlv HQ hcnt
   go_enter Tryz.func19, Tryz.ntmps19
   go_upto_region 1 with (fail)
   rw [HW0.out]
   obtain ⟨k10, k11, k12, k13, k14, k15, k16, k17⟩ := k1
   go_upto_region 7 with (go_at_call 43; refine HH.out.mono ?_; rintro e w2 ⟨A2, c2, rfl, o2, b2⟩)
   have V6 : VLoc (w2.alloc (.cells x1.val 29)) w2.heap.size x1 := Loc.new w2 x1.val _
   have ba := (Below.refl w2.heap.size w2).alloc (Nat.le_refl _) (.cells x1.val 29)
   have b2a := below_then b2 ba b2.size
   have o12 := owns_mono' (owns_mono o2 S0.b.size) ba
   have hsz2 := b2.size
   obtain ⟨p, hp6⟩ : ∃ p, p = w2.heap.size := ⟨_, rfl⟩
   obtain ⟨W2, hW2⟩ : ∃ W2, W2 = w2.alloc (.cells x1.val 29) := ⟨_, rfl⟩
   rw [← hW2] at V6 b2a o12
   rw [← hp6] at V6 hsz2
   unfold PW.val at hW2
   rw [← hW2, ← hp6]
   have G2 : GS w W2 p x x1 A2 c2 y1 := ⟨Loc.below S0.v1 b2a (Loc.lt S0.v1), Loc.below S0.v7 b2a (Loc.lt S0.v7), V6, o12, below_then S0.b b2a S0.b.size, by omega⟩
   clear hW2 hp6 V6 ba b2a o12 o2 b2 HH S0 k10 k11 k12 k13 k14 k15 k16 k17 t1 t2
   go_wp2_with (fail)
   go_loopw [10, 12] (fun a i wr => ∃ (k : Nat) (xk : PW) (ys : Bs) (O : Option Addr) (d : Nat), k ≤ np ∧ a = .slice O ys.length d ∧ i = .int .i64 k ∧ Hid (GS w wr p x xk O d ys) ∧ Hid (xk.frames ≤ x.frames + 1 + k ∧ xk.procs ≤ x.procs + k ∧ xk.entries = x.entries ∧ ys.length ≤ 100 + 27000 * k ∧ xk.number = x.number ∧ xk.mark = x.mark) ∧ Hid (pwProcs x1 y1 (pl.map (·.p)) = pwProcs xk ys ((pl.map (·.p)).drop k))) (fun _ i _ => np - (intOf i).toNat)
   case atStart => exact ⟨0, x1, y1, A2, c2, Nat.zero_le _, rfl, rfl, Lib.hid G2, Lib.hid (by have := HBB.out; omega), Lib.hid (by rw [List.drop_zero])⟩
   case round =>
    obtain ⟨wi, rfl⟩ : ∃ wi, wi = wr := ⟨_, rfl⟩
    obtain ⟨k, xk, ys, O, d, hk, rfl, rfl, SI, HBI, HPI⟩ := hrel
    clear G2
    by_cases hkn : k < np
    ·have hkn' : (k : Int) < (np : Int) := by omega
     have hkI : (0 : Int) ≤ (k : Int) := by omega
     have hkl : k < pl.length := by rw [← HNP.out]; exact hkn
     have hst := HPI.out
     have hst0 := hst
     rw [pwProcs_step (by rw [List.length_map]; exact hkl), List.getElem_map] at hst
     clear hst0
     obtain ⟨b, off, hAe, hbl, hcc⟩ := HRP.out.prcs (by omega)
     have hcx := hcc k hkl
     have hyo := HPO.out pl[k] (List.getElem_mem hkl)
     obtain ⟨Y, hgetY⟩ : ∃ Y, Y = pl[k] := ⟨_, rfl⟩
     rw [← hgetY] at hcx hyo hst
     obtain ⟨⟨yn, ya, yc⟩, YA, ycp⟩ := Y
     have z0 := hcx 0 (by decide); have z1 := hcx 1 (by decide); have z2 := hcx 2 (by decide)
     simp only [PrcC.cells, procCells, List.getElem?_toArray, List.getElem?_cons_zero, List.getElem?_cons_succ, Nat.add_zero] at z0 z1 z2
     obtain ⟨nc, hnc⟩ : ∃ nc, nc = yc.length := ⟨_, rfl⟩
     rw [← hnc] at z2
     have hHSS : ∀ V, Below wi.heap.size wi V → (V.cell? ⟨p, 0, none⟩ = some (.int .i64 xk.number) ∧ V.cell? ⟨p, 1, none⟩ = some (.int .i64 xk.mark) ∧ V.cell? ⟨p, 2, none⟩ = some (.int .i64 xk.frames) ∧ V.cell? ⟨p, 3, none⟩ = some (.int .i64 xk.procs) ∧ V.cell? ⟨p, 4, none⟩ = some (.int .i64 xk.entries) ∧ V.cell? ⟨p, 5, none⟩ = some (.string xk.name) ∧ V.cell? ⟨p, 6, none⟩ = some (.string xk.key) ∧ V.cell? ⟨p, 7, none⟩ = some (.bool xk.live) ∧
       V.cell? ⟨b, off + k * 3, none⟩ = some (.string yn) ∧ V.cell? ⟨b, off + k * 3 + 1, none⟩ = some (.int .i64 ya) ∧ V.cell? ⟨b, off + k * 3 + 2, none⟩ = some (.slice YA nc ycp)) := fun V hV => by
      obtain ⟨c0, c1, c2, c3, c4, c5, c6, c7⟩ := VLoc.cells (SI.out.below hV).v11
      have hbV := below_then SI.out.b hV SI.out.b.size
      exact ⟨c0, c1, c2, c3, c4, c5, c6, c7, by rw [← z0]; exact hbV.cell (p := ⟨b, off + k * 3, none⟩) hbl, by rw [← z1]; exact hbV.cell (p := ⟨b, off + k * 3 + 1, none⟩) hbl, by rw [← z2]; exact hbV.cell (p := ⟨b, off + k * 3 + 2, none⟩) hbl⟩
     have hpr : ∀ V, Below wi.heap.size wi V → Calls Tryz.prog 47 #[.agg #[.int .i64 xk.number, .int .i64 xk.mark, .int .i64 xk.frames, .int .i64 xk.procs, .int .i64 xk.entries, .string xk.name, .string xk.key, .bool xk.live], .agg #[.string yn, .int .i64 ya, .slice YA nc ycp]] V fun e w' => e = .returned (.int .i64 (pwProcE xk ⟨yn, ya, yc⟩)) ∧ Below V.heap.size V w' := fun V hV => by
      have h := r14proc_any xk ⟨yn, ya, yc⟩ YA ycp V (hyo.below (below_then SI.out.b hV SI.out.b.size)).r hyo.l
      unfold procCells PW.val at h
      simp only at h
      rw [← hnc] at h
      exact h
     have hen6 : ∀ V, Below wi.heap.size wi V → Calls Tryz.prog 48 #[.agg #[.string yn, .int .i64 ya, .slice YA nc ycp]] V (RE (procEncode ⟨yn, ya, yc⟩) V) := fun V hV => by
      have h := refEncode_any ⟨yn, ya, yc⟩ YA ycp V (hyo.below (below_then SI.out.b hV SI.out.b.size)).r hyo.l hyo.i
      unfold procCells at h
      simp only at h
      rw [← hnc] at h
      exact h
     obtain ⟨E, hE⟩ : ∃ E, E = pwProcE xk ⟨yn, ya, yc⟩ := ⟨_, rfl⟩
     simp only at hst
     rw [← hE] at hpr hst
     have HST := Lib.hid hst
     have HE := Lib.hid hE
     have HSS := Lib.hid hHSS
     have HPR := Lib.hid hpr
     have HEN := Lib.hid hen6
     have HAE := Lib.hid hAe
     have bd : Below wi.heap.size wi wi.drew := below_drewN (Below.refl _ _) 1
     obtain ⟨s0, s1, s2, s3, s4, s5, s6, s7, s8, s9, s10⟩ := hHSS wi (Below.refl _ _)
     clear hst hE hHSS hpr hen6 hcc hcx hyo z0 z1 z2 hnc hbl
     rw [HAE.out]
     go_upto_region 10 with (fail)
     go_region_held3 (fun V => V.cell? ⟨p, 0, none⟩ = some (.int .i64 xk.number) ∧ V.cell? ⟨p, 1, none⟩ = some (.int .i64 xk.mark) ∧ V.cell? ⟨p, 2, none⟩ = some (.int .i64 xk.frames) ∧ V.cell? ⟨p, 3, none⟩ = some (.int .i64 xk.procs) ∧ V.cell? ⟨p, 4, none⟩ = some (.int .i64 xk.entries) ∧ V.cell? ⟨p, 5, none⟩ = some (.string xk.name) ∧ V.cell? ⟨p, 6, none⟩ = some (.string xk.key) ∧ V.cell? ⟨p, 7, none⟩ = some (.bool xk.live) ∧ V.cell? ⟨b, off + k * 3, none⟩ = some (.string yn) ∧ V.cell? ⟨b, off + k * 3 + 1, none⟩ = some (.int .i64 ya) ∧ V.cell? ⟨b, off + k * 3 + 2, none⟩ = some (.slice YA nc ycp)) ((first | (with_reducible exact HSS.out _ b5') | exact HSS.out _ bd | exact HSS.out _ (Below.refl _ _))) ((go_at_call 47; refine (HPR.out _ bd).mono ?_; rintro e w5 ⟨rfl, b5⟩; have b5' := below_then bd b5 (Nat.le_refl _)))
     have S5 := SI.out.below b5'
     clear s0 s1 s2 s3 s4 s5 s6 s7 s8 s9 s10 bd HPR
     by_cases hE0 : E = 0
     ·subst hE0
      have hE1 : pwProcE xk ⟨yn, ya, yc⟩ = 0 := HE.out.symm
      have hok := (pwProcE_zero hE1).1
      have hst := HST.out
      rw [if_neg (by simp)] at hst
      have hbl := procBytes_le' hok
      obtain ⟨bs, hbs⟩ : ∃ bs, bs = procBytes ⟨yn, ya, yc⟩ := ⟨_, rfl⟩
      rw [← hbs] at hbl
      have hen7 : Calls Tryz.prog 48 #[.agg #[.string yn, .int .i64 ya, .slice YA nc ycp]] w5 fun e w' => ∃ A' c', e = .returned (.tuple #[.slice A' bs.length c', .int .i64 0]) ∧ w'.ownsRow w5.heap.size 5 1 (.slice A' bs.length c') bs.length (cellsB bs) ∧ Below w5.heap.size w5 w' := by
       have h := HEN.out w5 b5'
       rw [procEncode_ok hok, ← hbs] at h
       exact h
      have HEN7 := Lib.hid hen7
      obtain ⟨_, _, _, _, _, _, _, _, s8, s9, s10⟩ := HSS.out w5 b5'
      obtain ⟨q0, hq0⟩ : ∃ q0, q0 = bodyF 2 xk.frames [] := ⟨_, rfl⟩
      obtain ⟨q1, hq1⟩ : ∃ q1, q1 = q0 ++ encText bs := ⟨_, rfl⟩
      have hq0l : q0.length ≤ 11 := by rw [hq0]; exact (bodyF_le 2 xk.frames []).2
      have hq1l : q1.length ≤ 27000 := by rw [hq1, List.length_append]; have := encText_le bs; omega
      obtain ⟨zf, hzf⟩ : ∃ zf, zf = ys ++ procFrame xk ⟨yn, ya, yc⟩ := ⟨_, rfl⟩
      have HZF : Hid (zf = ys ++ (headB q1 ++ q1)) := Lib.hid (by
       have e : bodyF 2 xk.frames (encText bs) = q1 := by rw [bodyF_more, hq1, hq0]
       rw [hzf]; unfold procFrame frameB; rw [← hbs, e])
      have HBE : Hid (∀ V, Calls Tryz.prog 44 #[.int .u8 2, .int .i64 xk.frames] V (RW q0 V)) := Lib.hid (fun V => by
       rw [hq0]; exact begun_any 2 xk.frames (by have := HBI.out; omega) V)
      have HTX : Hid (∀ A c (U V : World), V.ownsRow U.heap.size 5 1 (.slice A q0.length c) q0.length (cellsB q0) → Calls Tryz.prog 49 #[.agg #[.slice A q0.length c, .int .i64 0], .string ⟨bs.toArray⟩] V (RW q1 V)) := Lib.hid (fun A c U V o => by
       have h := rwtext_any A q0.length c q0 ⟨bs.toArray⟩ V (Row.of_owns o) rfl (owns_none o) (by show q0.length + bs.toArray.size + 10 ≤ _; rw [List.size_toArray]; omega)
       rw [show (⟨bs.toArray⟩ : ByteArray).data.toList = bs from rfl, ← hq1] at h
       exact h)
      have HST2 : Hid (pwProcs x1 y1 (pl.map (·.p)) = pwProcs (pwProc xk ⟨yn, ya, yc⟩) zf ((pl.map (·.p)).drop (k + 1))) := Lib.hid (by rw [hzf]; exact hst)
      have HPF := Lib.hid (procFrame_le hE1)
      have HZL : Hid (zf.length = ys.length + (procFrame xk ⟨yn, ya, yc⟩).length) := Lib.hid (by rw [hzf, List.length_append])
      clear hst hE1 hok hbs hq0 hq1 hzf HE HST HEN hen7
      go_upto_region 14 with (go_at_call 48; refine HEN7.out.mono ?_; rintro e w6 ⟨A6, c6, rfl, o6, b6⟩)
      have S6 := S5.below b6
      have b56 := below_then b5' b6 b5'.size
      have HCV : Hid (∀ V, Below w6.heap.size w6 V → (convert 33 9 (.slice A6 bs.length c6)).run Tryz.prog V = .ok (.string ⟨bs.toArray⟩) V) := Lib.hid (fun V hV => run_ofBytes (P := Tryz.prog) 33 9 5 Tryz.underlying33 Tryz.underlying5 Tryz.underlying9 (W := V) (A := A6) (xs := bs) bs.length c6 rfl ((Row.of_owns o6).of_below hV (Nat.le_refl _)) (owns_none o6))
      have s2 := (VLoc.cells S6.v11).2.2.1
      have bd : Below w6.heap.size w6 w6.drew := below_drewN (Below.refl _ _) 1
      have cv0 := HCV.out w6.drew bd
      have cv1 := HCV.out w6 (Below.refl _ _)
      clear s8 s9 s10 o6 b6 HEN7 S5
      have S6d := S6.below bd
      have HS6 : Hid (∀ V, Below w6.heap.size w6 V → GS w V p x xk O d ys) := Lib.hid (fun V hV => S6.below hV)
      have hw6 : w.heap.size ≤ w6.heap.size := S6.b.size
      have bda : Below w6.heap.size w6 (w6.alloc (.cells #[.slice none 0 0, .int .i64 0] 104)).drew := ((Below.refl w6.heap.size w6).alloc (Nat.le_refl _) (.cells #[.slice none 0 0, .int .i64 0] 104)).drew
      have cva := HCV.out _ bda
      have s2a : (w6.alloc (.cells #[.slice none 0 0, .int .i64 0] 104)).drew.cell? ⟨p, 2, none⟩ = some (.int .i64 xk.frames) := (VLoc.cells (S6.below bda).v11).2.2.1
      have LA0 : Loc (w6.alloc (.cells #[.slice none 0 0, .int .i64 0] 104)).drew w6.heap.size #[.slice none 0 0, .int .i64 0] 104 := (Loc.new w6 _ _).drew
      clear S6d
      go_cut [16] from 45 to 92 (fun v wx => ∃ (q : Nat) (A8 : Option Addr) (c8 : Nat), v = .pointer (some ⟨q, 0, none⟩) ∧ Hid (GS w wx p x xk O d ys) ∧ BW w.heap.size wx q A8 c8 q1 ∧ w.heap.size ≤ q ∧ Hid (Below w6.heap.size w6 wx))
      case first =>
       refine wp_region_noPanic ?_
       go_region_law ((first | (go_simp; go_at_call 44; refine (HBE.out _).mono ?_; rintro e7 w7 ⟨A7, c7, rfl, o7, b7⟩; have b7' : Below w6.heap.size w6 w7 := (by first | exact below_then bd b7 (Nat.le_refl _) | exact below_then bda b7 (by simp)); have cv7 := HCV.out w7 b7'; have b7a := b7'.alloc b7'.size (.cells #[.slice none 0 0, .int .i64 0] 104); have cv7a := HCV.out _ b7a; have LA7 := Loc.new w7 #[.slice none 0 0, .int .i64 0] 104; have hw7 : w.heap.size ≤ w7.heap.size := Nat.le_trans hw6 b7'.size; have hw7a : w.heap.size ≤ (w7.alloc (.cells #[.slice none 0 0, .int .i64 0] 104)).heap.size := Nat.le_trans hw6 b7a.size; (try have L7 := Loc.below LA0 b7 LA0.lt)) | (go_simp; go_at_call 49; (first | refine (HTX.out _ _ _ _ o7).mono ?_ | refine (HTX.out _ _ _ _ (owns_mono' o7 ((Below.refl w7.heap.size w7).alloc (Nat.le_refl _) (.cells #[.slice none 0 0, .int .i64 0] 104)))).mono ?_); rintro e8 w8 ⟨A8, c8, rfl, o8, b8⟩; have b8' : Below w6.heap.size w6 w8 := (by first | exact below_then b7' b8 b7'.size | exact below_then b7a b8 b7a.size); (try have L8 := Loc.below L7 b8 L7.lt); (try have L8 := Loc.below LA7 b8 LA7.lt); (try have u0 := L8.cell 0); (try have u1 := L8.cell 1); (try have g0 := L8.free 0); (try have g1 := L8.free 1); (try simp only [List.getElem?_toArray, List.getElem?_cons_zero, List.getElem?_cons_succ] at u0 u1))))
       all_goals
        refine NoPanic.normal ?_
        go_wp2
        go_meet
        case rel =>
         first
          | exact ⟨w8.heap.size, A8, c8, rfl, Lib.hid ((HS6.out _ b8').below ((Below.refl w8.heap.size w8).alloc (Nat.le_refl _) _)), ⟨Loc.new w8 _ _, owns_mono' (owns_mono o8 (by first | exact hw7 | exact hw7a)) ((Below.refl w8.heap.size w8).alloc (Nat.le_refl _) _)⟩, Nat.le_trans hw6 b8'.size, Lib.hid (b8'.alloc b8'.size _)⟩
          | exact ⟨w7.heap.size, A8, c8, rfl, Lib.hid ((HS6.out _ b8').put2 L8 hw7), ⟨(ws_put L8 (owns_mono o8 (by first | exact hw7 | exact hw7a))).1, (ws_put L8 (owns_mono o8 (by first | exact hw7 | exact hw7a))).2⟩, hw7, Lib.hid (put2_below b8' b7'.size)⟩
          | exact ⟨w6.heap.size, A8, c8, rfl, Lib.hid ((HS6.out _ b8').put2 L8 hw6), ⟨(ws_put L8 (owns_mono o8 (by first | exact hw7 | exact hw7a))).1, (ws_put L8 (owns_mono o8 (by first | exact hw7 | exact hw7a))).2⟩, hw6, Lib.hid (put2_below b8' (Nat.le_refl _))⟩
      case rest =>
       obtain ⟨q, A8, c8, rfl, HG8, BW8, hq, hb8⟩ := hcut
       have b58 := below_then b56 hb8.out b56.size
       obtain ⟨_, _, _, _, _, _, _, _, s8, s9, s10⟩ := HSS.out wc b58
       obtain ⟨_, _, _, t33, _, t35, _, _⟩ := VLoc.cells HG8.out.v11
       obtain ⟨_, _, _, f3, _, f5, _, _⟩ := VLoc.free8 HG8.out.v11
       have hpq : q ≠ p := Loc.ne BW8.t HG8.out.v11 (by decide)
       obtain ⟨xm, hxm⟩ : ∃ xm : PW, xm = { xk with name := yn } := ⟨_, rfl⟩
       obtain ⟨xn, hxn⟩ : ∃ xn : PW, xn = { xm with procs := xk.procs + 1 } := ⟨_, rfl⟩
       obtain ⟨x3, hx3⟩ : ∃ x3 : PW, x3 = { xn with frames := xn.frames + 1 } := ⟨_, rfl⟩
       have G9 := (HG8.out.set 5 (.string yn) (x2 := xm) (by rw [hxm]; rfl)).set 3 (.int .i64 ((xk.procs : Int) + 1)) (x2 := xn) (by rw [hxn, hxm]; rfl)
       have BW9 : BW w.heap.size ((wc.setCell ⟨p, 5, none⟩ (.string yn)).setCell ⟨p, 3, none⟩ (.int .i64 ((xk.procs : Int) + 1))) q A8 c8 q1 := by
        have o1 := owns_setCell (a := ⟨p, 5, none⟩) BW8.o (owns_ne BW8.o HG8.out.v11 (by decide)) (.string yn)
        have v1 := HG8.out.set 5 (.string yn) (x2 := xm) (by rw [hxm]; rfl)
        exact ⟨Loc.other (Loc.other BW8.t (a := ⟨p, 5, none⟩) hpq _) (a := ⟨p, 3, none⟩) hpq _, owns_setCell (a := ⟨p, 3, none⟩) o1 (owns_ne o1 v1.v11 (by decide)) _⟩
       have HX3 : Hid (x3 = pwProc xk ⟨yn, ya, yc⟩) := Lib.hid (by rw [hx3, hxn, hxm]; rfl)
       have HXN : Hid (xn.frames = xk.frames ∧ xn.number = xk.number ∧ xn.mark = xk.mark ∧ xn.entries = xk.entries ∧ xn.procs = xk.procs + 1) := Lib.hid (by rw [hxn, hxm]; exact ⟨rfl, rfl, rfl, rfl, rfl⟩)
       have HXF : Hid (x3.frames = xk.frames + 1 ∧ x3.procs = xk.procs + 1 ∧ x3.entries = xk.entries ∧ x3.number = xk.number ∧ x3.mark = xk.mark) := Lib.hid (by rw [hx3, hxn, hxm]; exact ⟨rfl, rfl, rfl, rfl, rfl⟩)
       have HHX := Lib.hid hx3
       clear hxm hxn hx3 b56 HS6 hw6 bda cva s2a LA0 cv0 cv1 HCV s2 bd S6 HSS HTX HBE b58
       have hxkp : xk.procs ≤ 281474976710655 := by have := HBI.out; omega
       go_upto_region 17 with (fail)
       obtain ⟨W9, hW9⟩ : ∃ W9, W9 = (wc.setCell ⟨p, 5, none⟩ (.string yn)).setCell ⟨p, 3, none⟩ (.int .i64 ((xk.procs : Int) + 1)) := ⟨_, rfl⟩
       rw [← hW9] at G9 BW9
       rw [← hW9]
       have HFR := Lib.hid (framedQ_any xn x3 HHX.out O A8 ys.length q1.length d c8 w.heap.size ys q1 zf HZF.out W9 G9.o G9.b.size rfl (Row.of_owns BW9.o) rfl (owns_none BW9.o) (by omega) (by have := HBI.out; omega) (by have := HBI.out; have := HXN.out; omega))
       obtain ⟨k10, k11, k12, k13, k14, k15, k16, k17⟩ := VLoc.cells G9.v11
       have c60 := BW9.t.cell 0
       simp only [List.getElem?_toArray, List.getElem?_cons_zero] at c60
       clear hW9 t33 t35 f3 f5 s8 s9 s10 HG8 BW8 hb8 b5' hxkp
       go_wp2_with (go_at_call 46; refine HFR.out.mono ?_; rintro e w10 ⟨A10, c10, rfl, o10, K10⟩; obtain ⟨G10, v10⟩ := G9.framed (x2 := x3) o10 K10; obtain ⟨m0, m1, m2, m3, m4, m5, m6, m7⟩ := v10.cells; obtain ⟨f0, f1, f2, f3, f4, f5, f6, f7⟩ := v10.free8)
       unfold putV at G10
       go_roundw
       case rel =>
        have h1 := HBI.out
        have h2 := HPF.out
        have h3 := HZL.out
        have h4 := HXF.out
        exact ⟨k + 1, x3, zf, A10, c10, by omega, rfl, by go_num, Lib.hid G10, Lib.hid (by omega), Lib.hid (by rw [HX3.out]; exact HST2.out)⟩
       case measure => simp [intOf]; omega
     ·have t3 : (E != 0) = true := by simpa using hE0
      have HX : Hid (Q = (([], x), E)) := Lib.hid (by
       rw [HQ2.out, HST.out, if_pos hE0]
       unfold pwTail
       rw [if_pos hE0])
      clear hE0
      have k1 := VLoc.cells S5.v1
      rw [HLV.out] at k1
      have hres : R14P w Q (.returned (.tuple #[.slice none 0 0, .agg x.val, .int .i64 E])) (putV w5 (w.heap.size + 1) x).drew := by rw [HX.out]; exact ⟨none, 0, rfl, World.ownsRow_nil _ _ _ _, below_drewN (putV_below S5.b (Nat.le_succ w.heap.size) x) 1⟩
      have hfin : VLoc (putV w5 (w.heap.size + 1) x).drew (w.heap.size + 1) x := Loc.drew (putV_loc S5.v7 x)
      have HRES := Lib.hid hres
      have HFIN := Lib.hid hfin.cells
      obtain ⟨k10, k11, k12, k13, k14, k15, k16, k17⟩ := k1
      obtain ⟨m0, m1, m2, m3, m4, m5, m6, m7⟩ := VLoc.cells S5.v7
      obtain ⟨f0, f1, f2, f3, f4, f5, f6, f7⟩ := VLoc.free8 S5.v7
      clear hres hfin
      go_upto_region 12 with (fail)
      go_region
      all_goals
       go_wp2
       have hres := HRES.out
       obtain ⟨e0, e1, e2, e3, e4, e5, e6, e7⟩ := HFIN.out
       unfold putV at hres e0 e1 e2 e3 e4 e5 e6 e7
       rw [HLV.out] at hres e0 e1 e2 e3 e4 e5 e6 e7
       exact bodyPost_ret (v := .tuple #[.slice none 0 0, .agg x.val, .int .i64 E]) (by simp [results, Tryz.results19, go_sem, e0, e1, e2, e3, e4, e5, e6, e7, PW.val, HLV.out]) rfl hres
    ·obtain rfl : k = np := by omega
     have hkn' : ¬ (k : Int) < (k : Int) := by omega
     have hpp := HPI.out
     rw [List.drop_eq_nil_of_le (by rw [List.length_map, ← HNP.out]; exact Nat.le_refl _), pwProcs] at hpp
     have hq := HQ2.out
     rw [hpp] at hq
     unfold pwTail at hq
     simp only at hq
     rw [if_neg (by simp), ← HNE.out] at hq
     have HQ3 := Lib.hid hq
     have hxkf : xk.frames ≤ 281474976710655 := by have := HBI.out; omega
     clear hpp hq HPI HQ2
     by_cases hne0 : ne = 0
     ·have hE0 : pwEnts xk es = (xk, 0) := by
       have : es = [] := List.length_eq_zero_iff.1 (by rw [← HNE.out]; exact hne0)
       rw [this]; rfl
      have HX : Hid (Q = ((ys, xk), 0)) := Lib.hid (by rw [HQ3.out, hE0, if_neg (by simp), if_pos hne0])
      subst hne0
      have SW := SI.out
      clear hE0 HQ3
      have hres : R14P w Q (.returned (.tuple #[.slice O ys.length d, .agg xk.val, .int .i64 0])) (putV wi (w.heap.size + 1) xk).drew := by rw [HX.out]; exact ⟨O, d, rfl, owns_mono' (putV_own SW.o (owns_ne SW.o SW.v7 (by decide)) xk) (below_drewN (Below.refl _ _) 1), below_drewN (putV_below SW.b (Nat.le_succ w.heap.size) xk) 1⟩
      have hfin : VLoc (putV wi (w.heap.size + 1) xk).drew (w.heap.size + 1) xk := Loc.drew (putV_loc SW.v7 xk)
      have HRES := Lib.hid hres
      have HFIN := Lib.hid hfin.cells
      obtain ⟨k10, k11, k12, k13, k14, k15, k16, k17⟩ := VLoc.cells SW.v11
      obtain ⟨m0, m1, m2, m3, m4, m5, m6, m7⟩ := VLoc.cells SW.v7
      obtain ⟨f0, f1, f2, f3, f4, f5, f6, f7⟩ := VLoc.free8 SW.v7
      clear hres hfin
      go_upto_region 19 with (fail)
      go_region
      all_goals
       go_wp2
       have hres := HRES.out
       obtain ⟨e0, e1, e2, e3, e4, e5, e6, e7⟩ := HFIN.out
       unfold putV at hres e0 e1 e2 e3 e4 e5 e6 e7
       exact bodyPost_ret (v := .tuple #[.slice O ys.length d, .agg xk.val, .int .i64 0]) (by simp [results, Tryz.results19, go_sem, e0, e1, e2, e3, e4, e5, e6, e7, PW.val]) rfl hres
     ·have tn : ¬ ((ne : Int) = 0) := by omega
      have HNE0 := Lib.hid hne0
      have SW := SI.out
      have s2 := (VLoc.cells SW.v11).2.2.1
      obtain ⟨q0, hq0⟩ : ∃ q0, q0 = bodyF 3 xk.frames [] := ⟨_, rfl⟩
      obtain ⟨q1, hq1⟩ : ∃ q1, q1 = q0 ++ encNumber (ne : Int) := ⟨_, rfl⟩
      have hq0l : q0.length ≤ 11 := by rw [hq0]; exact (bodyF_le 3 xk.frames []).2
      have hq1l : q1.length ≤ 21 := by rw [hq1, List.length_append]; have := encNumber_le (ne : Int); omega
      have HBE : Hid (Calls Tryz.prog 44 #[.int .u8 3, .int .i64 xk.frames] wi (RW q0 wi)) := Lib.hid (by rw [hq0]; exact begun_any 3 xk.frames hxkf wi)
      have HNU : Hid (∀ A c (U V : World), V.ownsRow U.heap.size 5 1 (.slice A q0.length c) q0.length (cellsB q0) → Calls Tryz.prog 45 #[.agg #[.slice A q0.length c, .int .i64 0], .int .i64 ne] V (RW q1 V)) := Lib.hid (fun A c U V o => by
       rw [hq1]
       exact rwnumber_any A q0.length c q0 ne V (Row.of_owns o) rfl (owns_none o) (by omega) (by omega) (by omega))
      have HEF : Hid (∀ xj : PW, xj.frames = xk.frames → ∀ bs, bs = q1 ++ es.flatMap entBytes → headB bs ++ bs = entsFrame xj es) := Lib.hid (fun xj h1 bs h2 => by
       have e : bodyF 3 xj.frames (entsBytes es) = bs := by rw [bodyF_more, h1, h2, hq1, hq0]; unfold entsBytes; rw [← HNE.out, List.append_assoc]
       unfold entsFrame frameB
       rw [e])
      clear hq0 hq1 hne0
      go_upto_region 21 with (first | (go_at_call 44; refine HBE.out.mono ?_; rintro e w3 ⟨A3, c3, rfl, o3, b3⟩) | (go_at_call 45; refine (HNU.out _ _ _ _ o3).mono ?_; rintro e w4 ⟨A4, c4, rfl, o4, b4⟩))
      have ba := (Below.refl w4.heap.size w4).alloc (Nat.le_refl _) (.cells #[.slice A4 q1.length c4, .int .i64 0] 104)
      have b4a := below_then (below_then b3 b4 b3.size) ba (below_then b3 b4 b3.size).size
      have G4 := SW.below b4a
      have L4 := Loc.new w4 #[.slice A4 q1.length c4, .int .i64 0] 104
      have hsrc := ((Row.of_owns o4).of_below ba (Nat.le_refl _)).src (P := Tryz.prog) (size := 1) (n := q1.length) (c := c4) (tx := 33) Tryz.underlying33 (by rw [cellsB_length]; omega) (cellsB_one q1) (owns_none o4)
      obtain ⟨q, hq⟩ : ∃ q, q = w4.heap.size := ⟨_, rfl⟩
      obtain ⟨W4, hW4⟩ : ∃ W4, W4 = w4.alloc (.cells #[.slice A4 q1.length c4, .int .i64 0] 104) := ⟨_, rfl⟩
      rw [← hW4] at G4 L4 hsrc
      rw [← hq] at L4
      rw [← hW4, ← hq]
      have HSRC := Lib.hid hsrc
      have c40 := L4.cell 0
      simp only [List.getElem?_toArray, List.getElem?_cons_zero] at c40
      clear hW4 hq ba b4a b3 b4 o3 o4 HBE HNU SI SW s2 hsrc L4
      go_upto_region 22 with (fail)
      go_wp2_with (at_builtin; refine wpList_append_mine _ rfl _ _ 33 33 rfl 5 (.int .u8 0) 1 1 Tryz.underlying33 infoU8 rfl (by decide) (.slice none 0 0) 0 [] rfl (World.ownsRow_nil _ _ _ _) (.slice A4 q1.length c4) q1.length (cellsB q1) rfl HSRC.out (by unfold maxLen; omega) (by omega) ?_; intro A5 c5 w5 hown5 hg5 hb5 hx5; obtain ⟨o5, b5⟩ := own_next0 (World.ownsRow_nil _ W4.heap.size _ _) hown5 hg5 hb5 (Nat.le_refl _) (Below.refl W4.heap.size W4); rw [Nat.zero_add, List.nil_append] at o5; clear hx5 hg5 hb5 hown5)
      go_loopw [18, 19] (fun a i wr => ∃ (j : Nat) (xj : PW) (bs : Bs) (Bd : Option Addr) (db : Nat), j ≤ ne ∧ a = .slice Bd bs.length db ∧ i = .int .i64 j ∧ Hid (Keep W4.heap.size (· = p) W4 wr) ∧ Hid (VLoc wr p xj) ∧ Hid (wr.ownsRow W4.heap.size 5 1 (.slice Bd bs.length db) bs.length (cellsB bs)) ∧
        Hid (bs.length ≤ 100 + 500 * j ∧ xj.frames = xk.frames ∧ xj.entries ≤ x.entries + j) ∧ Hid (pwEnts xk es = pwEnts xj (es.drop j)) ∧ Hid (bs = q1 ++ (es.take j).flatMap entBytes)) (fun _ i _ => ne - (intOf i).toNat)
      case atStart => exact ⟨0, xk, q1, A5, c5, Nat.zero_le _, rfl, rfl, Lib.hid (Keep.of_below b5 _), Lib.hid (Loc.below G4.v11 b5 (Loc.lt G4.v11)), Lib.hid o5, Lib.hid (by have := HBI.out; omega), Lib.hid (by rw [List.drop_zero]), Lib.hid (by rw [List.take_zero]; simp)⟩
      case round =>
       obtain ⟨wj, rfl⟩ : ∃ wj, wj = wr := ⟨_, rfl⟩
       obtain ⟨j, xj, bs, Bd, db, hj, rfl, rfl, HK, HV, HO, HBJ, HPJ, HBS⟩ := hrel
       clear o5 b5
       have Gj := G4.keepP HK.out HV.out
       by_cases hjn : j < ne
       ·have hjn' : (j : Int) < (ne : Int) := by omega
        have hjI : (0 : Int) ≤ (j : Int) := by omega
        have hjl : j < es.length := by rw [← HNE.out]; exact hjn
        have hst := HPJ.out
        rw [pwEnts_step hjl] at hst
        obtain ⟨b, off, hBe, hbl, hcc⟩ := HRE.out.ents (by omega)
        have hcx := hcc j hjl
        have hyo := HEO.out es[j] (List.getElem_mem hjl)
        have htk : (es.take (j + 1)).flatMap entBytes = (es.take j).flatMap entBytes ++ entBytes es[j] := by rw [List.take_succ_eq_append_getElem hjl, List.flatMap_append]; simp
        obtain ⟨Y, hgetY⟩ : ∃ Y, Y = es[j] := ⟨_, rfl⟩
        rw [← hgetY] at hcx hyo hst htk
        obtain ⟨yk, ⟨vk, vn, vt⟩⟩ := Y
        have z0 := hcx 0 (by decide); have z1 := hcx 1 (by decide); have z2 := hcx 2 (by decide); have z3 := hcx 3 (by decide)
        simp only [Ent.cells, List.getElem?_toArray, List.getElem?_cons_zero, List.getElem?_cons_succ, Nat.add_zero] at z0 z1 z2 z3
        have hHSS : ∀ V, Below wj.heap.size wj V → (V.cell? ⟨p, 0, none⟩ = some (.int .i64 xj.number) ∧ V.cell? ⟨p, 1, none⟩ = some (.int .i64 xj.mark) ∧ V.cell? ⟨p, 2, none⟩ = some (.int .i64 xj.frames) ∧ V.cell? ⟨p, 3, none⟩ = some (.int .i64 xj.procs) ∧ V.cell? ⟨p, 4, none⟩ = some (.int .i64 xj.entries) ∧ V.cell? ⟨p, 5, none⟩ = some (.string xj.name) ∧ V.cell? ⟨p, 6, none⟩ = some (.string xj.key) ∧ V.cell? ⟨p, 7, none⟩ = some (.bool xj.live) ∧
          V.cell? ⟨b, off + j * 4, none⟩ = some (.string yk) ∧ V.cell? ⟨b, off + j * 4 + 1, none⟩ = some (.int .i64 vk) ∧ V.cell? ⟨b, off + j * 4 + 2, none⟩ = some (.int .i64 vn) ∧ V.cell? ⟨b, off + j * 4 + 3, none⟩ = some (.string vt)) := fun V hV => by
         obtain ⟨c0, c1, c2, c3, c4, c5, c6, c7⟩ := VLoc.cells (Gj.below hV).v11
         have hbV := below_then Gj.b hV Gj.b.size
         exact ⟨c0, c1, c2, c3, c4, c5, c6, c7, by rw [← z0]; exact hbV.cell (p := ⟨b, off + j * 4, none⟩) hbl, by rw [← z1]; exact hbV.cell (p := ⟨b, off + j * 4 + 1, none⟩) hbl, by rw [← z2]; exact hbV.cell (p := ⟨b, off + j * 4 + 2, none⟩) hbl, by rw [← z3]; exact hbV.cell (p := ⟨b, off + j * 4 + 3, none⟩) hbl⟩
        have hpr : ∀ V, Calls Tryz.prog 50 #[.agg #[.int .i64 xj.number, .int .i64 xj.mark, .int .i64 xj.frames, .int .i64 xj.procs, .int .i64 xj.entries, .string xj.name, .string xj.key, .bool xj.live], .agg #[.string yk, .int .i64 vk, .int .i64 vn, .string vt]] V fun e w' => e = .returned (.int .i64 (pwEntE xj ⟨yk, ⟨vk, vn, vt⟩⟩)) ∧ Below V.heap.size V w' := fun V => r14entry_any xj ⟨yk, ⟨vk, vn, vt⟩⟩ V
        obtain ⟨E, hE⟩ : ∃ E, E = pwEntE xj ⟨yk, ⟨vk, vn, vt⟩⟩ := ⟨_, rfl⟩
        rw [← hE] at hpr hst
        have HST := Lib.hid hst
        have HE := Lib.hid hE
        have HSS := Lib.hid hHSS
        have HPR := Lib.hid hpr
        have HBE := Lib.hid hBe
        have HTK := Lib.hid htk
        have HYO := Lib.hid hyo
        have HZB := Lib.hid (And.intro z0 hbl)
        have bd : Below wj.heap.size wj wj.drew := below_drewN (Below.refl _ _) 1
        obtain ⟨s0, s1, s2, s3, s4, s5, s6, s7, s8, s9, s10, s11⟩ := hHSS wj (Below.refl _ _)
        clear hst hE hHSS hpr hcc hcx hyo z0 z1 z2 z3 hbl htk hgetY
        rw [HBE.out]
        go_upto_region 26 with (fail)
        go_region_held3 (fun V => V.cell? ⟨p, 0, none⟩ = some (.int .i64 xj.number) ∧ V.cell? ⟨p, 1, none⟩ = some (.int .i64 xj.mark) ∧ V.cell? ⟨p, 2, none⟩ = some (.int .i64 xj.frames) ∧ V.cell? ⟨p, 3, none⟩ = some (.int .i64 xj.procs) ∧ V.cell? ⟨p, 4, none⟩ = some (.int .i64 xj.entries) ∧ V.cell? ⟨p, 5, none⟩ = some (.string xj.name) ∧ V.cell? ⟨p, 6, none⟩ = some (.string xj.key) ∧ V.cell? ⟨p, 7, none⟩ = some (.bool xj.live) ∧ V.cell? ⟨b, off + j * 4, none⟩ = some (.string yk) ∧ V.cell? ⟨b, off + j * 4 + 1, none⟩ = some (.int .i64 vk) ∧ V.cell? ⟨b, off + j * 4 + 2, none⟩ = some (.int .i64 vn) ∧ V.cell? ⟨b, off + j * 4 + 3, none⟩ = some (.string vt)) ((first | (with_reducible exact HSS.out _ b5') | exact HSS.out _ bd | exact HSS.out _ (Below.refl _ _))) ((go_at_call 50; refine (HPR.out _).mono ?_; rintro e w5 ⟨rfl, b5⟩; have b5' := below_then bd b5 (Nat.le_refl _)))
        have S5 := Gj.below b5'
        clear s0 s1 s2 s3 s4 s5 s6 s7 s8 s9 s10 s11 bd HPR
        by_cases hE0 : E = 0
        ·subst hE0
         have hE1 : pwEntE xj ⟨yk, ⟨vk, vn, vt⟩⟩ = 0 := HE.out.symm
         obtain ⟨hk1, hd1, _, _⟩ := pwEntE_zero hE1
         have hkz : yk.size ≤ 64 := by simp only at hk1; unfold isKey at hk1; simp at hk1; omega
         have hst := HST.out
         rw [if_neg (by simp)] at hst
         have hdl := datumBytes_le hd1
         obtain ⟨dl, hdlE⟩ : ∃ dl, dl = datumBytes ⟨vk, vn, vt⟩ := ⟨_, rfl⟩
         have hen7 : Calls Tryz.prog 51 #[.agg #[.int .i64 vk, .int .i64 vn, .string vt]] w5 fun e w' => ∃ A' c', e = .returned (.tuple #[.slice A' dl.length c', .int .i64 0]) ∧ w'.ownsRow w5.heap.size 5 1 (.slice A' dl.length c') dl.length (cellsB dl) ∧ Below w5.heap.size w5 w' := by
          have h := rdenc_any ⟨vk, vn, vt⟩ w5 (by have h := HYO.out.2; unfold i64R at h; unfold i64v; omega)
          rw [show datumEncode ⟨vk, vn, vt⟩ = (datumBytes ⟨vk, vn, vt⟩, 0) by unfold datumEncode; rw [if_pos hd1], ← hdlE] at h
          exact h
         have HEN7 := Lib.hid hen7
         obtain ⟨r0, hr0⟩ : ∃ r0, r0 = encText yk.data.toList := ⟨_, rfl⟩
         obtain ⟨r1, hr1⟩ : ∃ r1, r1 = r0 ++ encText dl := ⟨_, rfl⟩
         have hr0l : r0.length ≤ 80 := by rw [hr0]; have := encText_le yk.data.toList; have e : yk.data.toList.length = yk.size := size_data yk; omega
         have hr1l : r1.length ≤ 400 := by rw [hr1, List.length_append]; have := encText_le dl; rw [← hdlE] at hdl; omega
         have HR1 : Hid (r1 = entBytes ⟨yk, ⟨vk, vn, vt⟩⟩) := Lib.hid (by rw [hr1, hr0, hdlE]; rfl)
         have HTK1 : Hid (∀ V, Calls Tryz.prog 49 #[.agg #[.slice none 0 0, .int .i64 0], .string yk] V (RW r0 V)) := Lib.hid (fun V => by
          have h := rwtext_any none 0 0 [] yk V (Row.nil _ _) rfl (fun _ => rfl) (by omega)
          rw [List.nil_append, ← hr0] at h
          exact h)
         have HTX : Hid (∀ A c (U V : World), V.ownsRow U.heap.size 5 1 (.slice A r0.length c) r0.length (cellsB r0) → Calls Tryz.prog 49 #[.agg #[.slice A r0.length c, .int .i64 0], .string ⟨dl.toArray⟩] V (RW r1 V)) := Lib.hid (fun A c U V o => by
          have h := rwtext_any A r0.length c r0 ⟨dl.toArray⟩ V (Row.of_owns o) rfl (owns_none o) (by show r0.length + dl.toArray.size + 10 ≤ _; rw [List.size_toArray]; rw [← hdlE] at hdl; omega)
          rw [show (⟨dl.toArray⟩ : ByteArray).data.toList = dl from rfl, ← hr1] at h
          exact h)
         have HST2 : Hid (pwEnts xk es = pwEnts (pwEnt xj ⟨yk, ⟨vk, vn, vt⟩⟩) (es.drop (j + 1))) := Lib.hid hst
         have hxje : xj.entries ≤ 281474976710655 := by have := HBJ.out; omega
         obtain ⟨_, _, _, _, _, _, _, _, s8, s9, s10, s11⟩ := HSS.out w5 b5'
         clear hst hE1 hk1 hd1 hdlE hr0 hr1 HE HST hen7 hkz hdl
         go_upto_region 30 with (go_at_call 51; refine HEN7.out.mono ?_; rintro e w6 ⟨A6, c6, rfl, o6, b6⟩)
         have b56 := below_then b5' b6 b5'.size
         obtain ⟨_, _, _, _, _, _, _, _, s8', _, _, _⟩ := HSS.out w6 b56
         have h5W : W4.heap.size ≤ wj.heap.size := HK.out.size
         clear s8 s9 s10 s11 HEN7 S5 b6
         go_upto_region 31 with (go_at_call 49; refine (HTK1.out _).mono ?_; rintro e w7 ⟨A7, c7, rfl, o7, b7⟩)
         have ba := (Below.refl w7.heap.size w7).alloc (Nat.le_refl _) (.cells #[.slice A7 r0.length c7, .int .i64 0] 104)
         have b67 := below_then b7 ba b7.size
         have b57 := below_then b56 b67 b56.size
         have B7 : BW w6.heap.size (w7.alloc (.cells #[.slice A7 r0.length c7, .int .i64 0] 104)) w7.heap.size A7 c7 r0 := BW.new o7 (Nat.le_refl _)
         have o67 := owns_mono' o6 b67
         have h7q := b7.size
         have h6q := b56.size
         obtain ⟨q, hq⟩ : ∃ q, q = w7.heap.size := ⟨_, rfl⟩
         obtain ⟨W7, hW7⟩ : ∃ W7, W7 = w7.alloc (.cells #[.slice A7 r0.length c7, .int .i64 0] 104) := ⟨_, rfl⟩
         rw [← hW7, ← hq] at B7
         rw [← hW7] at b57 o67 b67
         rw [← hq] at h7q
         rw [← hW7, ← hq]
         have hcv := run_ofBytes (P := Tryz.prog) 33 9 5 Tryz.underlying33 Tryz.underlying5 Tryz.underlying9 (W := W7) (A := A6) (xs := dl) dl.length c6 rfl (Row.of_owns o67) (owns_none o67)
         have c70 := B7.t.cell 0
         have c71 := B7.t.cell 1
         simp only [List.getElem?_toArray, List.getElem?_cons_zero, List.getElem?_cons_succ] at c70 c71
         have HT7 := Lib.hid (HTX.out A7 c7 w6 W7 B7.o)
         clear hW7 hq b7 ba o7 o6 s8' HTK1 HTX b56 o67
         go_upto_region 32 with (go_at_call 49; refine HT7.out.mono ?_; rintro e w8 ⟨A8, c8, rfl, o8, b8⟩; obtain ⟨B8, y0, y1, g0, g1⟩ := B7.step b8 o8 b67.size)
         have b58 : Below wj.heap.size wj (put2 w8 q (.slice A8 r1.length c8) (.int .i64 0)) := put2_below (below_then b57 b8 b57.size) (by omega)
         obtain ⟨W8, hW8⟩ : ∃ W8, W8 = put2 w8 q (.slice A8 r1.length c8) (.int .i64 0) := ⟨_, rfl⟩
         rw [← hW8] at B8 b58
         unfold put2 at hW8
         rw [← hW8]
         have c80 := B8.t.cell 0
         simp only [List.getElem?_toArray, List.getElem?_cons_zero] at c80
         have hsrc := (Row.of_owns B8.o).src (P := Tryz.prog) (size := 1) (n := r1.length) (c := c8) (tx := 33) Tryz.underlying33 (by rw [cellsB_length]; omega) (cellsB_one r1) (owns_none B8.o)
         have HSRC := Lib.hid hsrc
         have ob8 := owns_mono' HO.out b58
         have v8 := Loc.below HV.out b58 (Loc.lt HV.out)
         have hsb8 := b58.size
         have K8 : Keep W4.heap.size (· = p) W4 W8 := HK.out.step (Keep.of_below b58 (fun _ => False)) h5W (fun _ _ h => h.elim)
         have HV8 := Lib.hid v8
         have HOB8 := Lib.hid ob8
         have HK8 := Lib.hid K8
         have hbsl := HBJ.out.1
         clear hW8 y0 y1 g0 g1 o8 b8 B7 c70 c71 hcv HT7 b57 b67 hsrc ob8 v8 K8 h7q h6q hsb8
         go_upto_region 33 with (at_builtin; refine wpList_append_mine _ rfl _ _ 33 33 rfl 5 (.int .u8 0) 1 1 Tryz.underlying33 infoU8 rfl (by decide) (.slice Bd bs.length db) bs.length (cellsB bs) rfl (owns_base HOB8.out (fun _ _ => Nat.zero_le _)) (.slice A8 r1.length c8) r1.length (cellsB r1) rfl HSRC.out (by unfold maxLen; omega) (by omega) ?_; intro A9 c9 w9 hown9 hg9 hb9 hx9)
         have hL9 : VLoc w9 p xj := Loc.grown HV8.out hg9 (owns_ne HOB8.out HV8.out (by decide))
         obtain ⟨m0, m1, m2, m3, m4, m5, m6, m7⟩ := hL9.cells
         obtain ⟨f0, f1, f2, f3, f4, f5, f6, f7⟩ := hL9.free8
         have hbB : ∀ k, (Value.slice Bd bs.length db).ownBlock = some k → W4.heap.size ≤ k := fun k hk => (HOB8.out.lt k hk).1
         have K9 : Keep W4.heap.size (· = p) W4 w9 := HK8.out.grown hg9 HK8.out.size (fun k hk => .inl (hbB k hk))
         have bw9 : Below w.heap.size w w9 := below_keep G4.b K9 G4.b.size (fun k hk => by have := G4.hp; omega)
         have s89 : w9.cell? ⟨b, off + j * 4, none⟩ = some (.string yk) := by rw [← HZB.out.1]; exact bw9.cell (p := ⟨b, off + j * 4, none⟩) HZB.out.2
         have o9 : w9.ownsRow W4.heap.size 5 1 (.slice A9 (bs.length + r1.length) c9) (bs.length + r1.length) (cellsB bs ++ cellsB r1) := owns_base hown9 (fun k hk => by
          rcases hb9 k hk with h | h
          ·exact hbB k h
          ·rw [h]; exact HK8.out.size)
         obtain ⟨xm, hxm⟩ : ∃ xm : PW, xm = { xj with key := yk } := ⟨_, rfl⟩
         obtain ⟨xn, hxn⟩ : ∃ xn : PW, xn = { xm with entries := xj.entries + 1 } := ⟨_, rfl⟩
         have v10 : VLoc (w9.setCell ⟨p, 6, none⟩ (.string yk)) p xm := by
          have h := Loc.set hL9 6 (.string yk)
          rw [show xj.val.setIfInBounds 6 (.string yk) = xm.val by rw [hxm]; rfl] at h
          exact h
         have v11 : VLoc ((w9.setCell ⟨p, 6, none⟩ (.string yk)).setCell ⟨p, 4, none⟩ (.int .i64 ((xj.entries : Int) + 1))) p xn := by
          have h := Loc.set v10 4 (.int .i64 ((xj.entries : Int) + 1))
          rw [show xm.val.setIfInBounds 4 (.int .i64 ((xj.entries : Int) + 1)) = xn.val by rw [hxn, hxm]; rfl] at h
          exact h
         have K11 : Keep W4.heap.size (· = p) W4 ((w9.setCell ⟨p, 6, none⟩ (.string yk)).setCell ⟨p, 4, none⟩ (.int .i64 ((xj.entries : Int) + 1))) := (K9.setCell (p := ⟨p, 6, none⟩) (.inr rfl) _).setCell (p := ⟨p, 4, none⟩) (.inr rfl) _
         have o10 := owns_setCell (a := ⟨p, 6, none⟩) o9 (owns_ne o9 hL9 (by decide)) (.string yk)
         have o11 := owns_setCell (a := ⟨p, 4, none⟩) o10 (owns_ne o10 v10 (by decide)) (.int .i64 ((xj.entries : Int) + 1))
         have HXN : Hid (xn = pwEnt xj ⟨yk, ⟨vk, vn, vt⟩⟩) := Lib.hid (by rw [hxn, hxm]; rfl)
         have HXF : Hid (xn.frames = xj.frames ∧ xn.entries = xj.entries + 1) := Lib.hid (by rw [hxn, hxm]; exact ⟨rfl, rfl⟩)
         have HV11 := Lib.hid v11
         have HK11 := Lib.hid K11
         have HO11 := Lib.hid o11
         clear hxm hxn v10 v11 bw9 K9 K11 o9 o10 o11 hg9 hb9 hown9 hx9 hbB
         go_wp2
         go_roundw
         case rel =>
          have h1 := HBJ.out
          have h2 := HXF.out
          have hlen : (bs ++ r1).length = bs.length + r1.length := List.length_append
          refine ⟨j + 1, xn, bs ++ r1, A9, c9, by omega, by rw [hlen], by go_num, HK11, HV11, Lib.hid ?_, Lib.hid (by omega), Lib.hid (by rw [HXN.out]; exact HST2.out), Lib.hid (by rw [HTK.out, ← List.append_assoc, ← HBS.out, HR1.out])⟩
          rw [hlen, cellsB_append]
          exact HO11.out
         case measure => simp [intOf]; omega
        ·have t3 : (E != 0) = true := by simpa using hE0
         have HX : Hid (Q = (([], x), E)) := Lib.hid (by
          rw [HQ3.out, HST.out, if_pos hE0]
          simp only
          rw [if_pos hE0])
         clear hE0
         have k1 := VLoc.cells S5.v1
         rw [HLV.out] at k1
         have hres : R14P w Q (.returned (.tuple #[.slice none 0 0, .agg x.val, .int .i64 E])) (putV w5 (w.heap.size + 1) x).drew := by rw [HX.out]; exact ⟨none, 0, rfl, World.ownsRow_nil _ _ _ _, below_drewN (putV_below S5.b (Nat.le_succ w.heap.size) x) 1⟩
         have hfin : VLoc (putV w5 (w.heap.size + 1) x).drew (w.heap.size + 1) x := Loc.drew (putV_loc S5.v7 x)
         have HRES := Lib.hid hres
         have HFIN := Lib.hid hfin.cells
         obtain ⟨k10, k11, k12, k13, k14, k15, k16, k17⟩ := k1
         obtain ⟨m0, m1, m2, m3, m4, m5, m6, m7⟩ := VLoc.cells S5.v7
         obtain ⟨f0, f1, f2, f3, f4, f5, f6, f7⟩ := VLoc.free8 S5.v7
         clear hres hfin
         go_upto_region 28 with (fail)
         go_region
         all_goals
          go_wp2
          have hres := HRES.out
          obtain ⟨e0, e1, e2, e3, e4, e5, e6, e7⟩ := HFIN.out
          unfold putV at hres e0 e1 e2 e3 e4 e5 e6 e7
          rw [HLV.out] at hres e0 e1 e2 e3 e4 e5 e6 e7
          exact bodyPost_ret (v := .tuple #[.slice none 0 0, .agg x.val, .int .i64 E]) (by simp [results, Tryz.results19, go_sem, e0, e1, e2, e3, e4, e5, e6, e7, PW.val, HLV.out]) rfl hres
       ·obtain rfl : j = ne := by omega
        have hjn' : ¬ (j : Int) < (j : Int) := by omega
        have hpp := HPJ.out
        rw [List.drop_eq_nil_of_le (by rw [← HNE.out]; exact Nat.le_refl _), pwEnts] at hpp
        have hbs := HBS.out
        rw [List.take_of_length_le (by rw [← HNE.out]; exact Nat.le_refl _)] at hbs
        have hfb := HEF.out xj HBJ.out.2.1 bs hbs
        obtain ⟨zf, hzf⟩ : ∃ zf, zf = ys ++ entsFrame xj es := ⟨_, rfl⟩
        obtain ⟨x3, hx3⟩ : ∃ x3 : PW, x3 = { xj with frames := xj.frames + 1 } := ⟨_, rfl⟩
        have HX : Hid (Q = ((zf, x3), 0)) := Lib.hid (by
         rw [HQ3.out, hpp, hzf, hx3]
         simp only
         rw [if_neg (by simp), if_neg HNE0.out])
        have HFR := Lib.hid (framedQ_any xj x3 hx3 O Bd ys.length bs.length d db w.heap.size ys bs zf (by rw [hfb, hzf]) wj Gj.o Gj.b.size rfl (Row.of_owns HO.out) rfl (owns_none HO.out) (by have := HBJ.out; omega) (by have := HBI.out; omega) (by have := HBJ.out; omega))
        obtain ⟨k10, k11, k12, k13, k14, k15, k16, k17⟩ := VLoc.cells Gj.v11
        clear hpp hbs hfb hzf hx3
        go_upto_region 36 with (go_at_call 46; refine HFR.out.mono ?_; rintro e w10 ⟨A10, c10, rfl, o10, K10⟩; obtain ⟨G10, v10⟩ := Gj.framed (x2 := x3) o10 K10; obtain ⟨m0, m1, m2, m3, m4, m5, m6, m7⟩ := v10.cells; obtain ⟨f0, f1, f2, f3, f4, f5, f6, f7⟩ := v10.free8)
        obtain ⟨W10, hW10⟩ : ∃ W10, W10 = putV w10 p x3 := ⟨_, rfl⟩
        rw [← hW10] at G10
        unfold putV at hW10
        rw [← hW10]
        clear hW10 m0 m1 m2 m3 m4 m5 m6 m7 f0 f1 f2 f3 f4 f5 f6 f7 v10 o10 K10 k10 k11 k12 k13 k14 k15 k16 k17 HFR
        have hres : R14P w Q (.returned (.tuple #[.slice A10 zf.length c10, .agg x3.val, .int .i64 0])) (putV W10 (w.heap.size + 1) x3).drew := by rw [HX.out]; exact ⟨A10, c10, rfl, owns_mono' (putV_own G10.o (owns_ne G10.o G10.v7 (by decide)) x3) (below_drewN (Below.refl _ _) 1), below_drewN (putV_below G10.b (Nat.le_succ w.heap.size) x3) 1⟩
        have hfin : VLoc (putV W10 (w.heap.size + 1) x3).drew (w.heap.size + 1) x3 := Loc.drew (putV_loc G10.v7 x3)
        have HRES := Lib.hid hres
        have HFIN := Lib.hid hfin.cells
        obtain ⟨k10, k11, k12, k13, k14, k15, k16, k17⟩ := VLoc.cells G10.v11
        obtain ⟨m0, m1, m2, m3, m4, m5, m6, m7⟩ := VLoc.cells G10.v7
        obtain ⟨f0, f1, f2, f3, f4, f5, f6, f7⟩ := VLoc.free8 G10.v7
        clear hres hfin
        go_region
        all_goals
         go_wp2
         have hres := HRES.out
         obtain ⟨e0, e1, e2, e3, e4, e5, e6, e7⟩ := HFIN.out
         unfold putV at hres e0 e1 e2 e3 e4 e5 e6 e7
         exact bodyPost_ret (v := .tuple #[.slice A10 zf.length c10, .agg x3.val, .int .i64 0]) (by simp [results, Tryz.results19, go_sem, e0, e1, e2, e3, e4, e5, e6, e7, PW.val]) rfl hres
end Go.Proofs.YtnieminnnkbneaaGreat
