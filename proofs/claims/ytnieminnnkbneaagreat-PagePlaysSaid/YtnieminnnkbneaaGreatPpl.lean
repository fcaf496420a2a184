/- Walk of treadlelaw14.PagePlays. Printed by wip/gen_ppl.py. -/
import Derived.Test.YtnieminnnkbneaaGreatMk
import Derived.Test.YtnieminnnkbneaaGreatMf
import Derived.Test.YtnieminnnkbneaaGreatLkn
namespace Go.Proofs.YtnieminnnkbneaaGreat
open Go.RowKit
set_option linter.unusedVariables false

set_option maxHeartbeats 1000000 in
theorem plnew_no (a b : Int) (h : a < 1 ∨ 281474976710655 < a ∨ b < 0 ∨ 281474976710655 < b) (w : World) :
  Calls Tryz.prog 7 #[.int .i64 a, .int .i64 b] w fun e w' => e = .returned (.tuple #[.pointer none, .int .i64 1]) ∧ w' = w := by
 have H := Lib.hid h
 clear h
 by_cases h1 : a < 1
 ·go_enter Tryz.func7, Tryz.ntmps7
  go_wp2
  go_ret2
  exact ⟨rfl, rfl⟩
 by_cases h2 : 281474976710655 < a
 ·go_enter Tryz.func7, Tryz.ntmps7
  go_wp2
  go_ret2
  exact ⟨rfl, rfl⟩
 by_cases h3 : b < 0
 ·go_enter Tryz.func7, Tryz.ntmps7
  go_wp2
  go_ret2
  exact ⟨rfl, rfl⟩
 have h4 : 281474976710655 < b := by have := H.out; omega
 go_enter Tryz.func7, Tryz.ntmps7
 go_wp2
 go_ret2
 exact ⟨rfl, rfl⟩

/-- The writer, the document's, and the bytes so far. -/
structure PB (w W : World) (pa q : Nat) (x y : PW) (xs : Bs) (A : Option Addr) (n c : Nat) : Prop where
 la : Loc W pa (x.cells nilS) 56
 v : VLoc W q y
 b : Below w.heap.size w W
 ha : w.heap.size ≤ pa
 hq : w.heap.size ≤ q
 o : W.ownsRow w.heap.size 5 1 (.slice A n c) n (cellsB xs)
 hn : n = xs.length
namespace PB
variable {w W V : World} {pa q : Nat} {x x' y : PW} {xs : Bs} {A : Option Addr} {n c : Nat}
theorem below (h : PB w W pa q x y xs A n c) (hb : Below W.heap.size W V) : PB w V pa q x y xs A n c :=
 ⟨h.la.below hb h.la.lt, Loc.below h.v hb (Loc.lt h.v), below_then h.b hb h.b.size, h.ha, h.hq, owns_mono' h.o hb, h.hn⟩
theorem drew (h : PB w W pa q x y xs A n c) : PB w W.drew pa q x y xs A n c := h.below (Below.refl _ _).drew
theorem alloc (h : PB w W pa q x y xs A n c) (o : Obj) : PB w (W.alloc o) pa q x y xs A n c := h.below ((Below.refl _ _).alloc (Nat.le_refl _) o)
theorem step (h : PB w W pa q x y xs A n c) (L : Loc V pa (x'.cells nilS) 56) (K : Keep W.heap.size (· = pa) W V) : PB w V pa q x' y xs A n c :=
 ⟨L, Loc.keep h.v K (Loc.lt h.v) (Loc.ne h.v h.la (by decide)), below_keep h.b K h.b.size (fun k hk => hk ▸ h.ha), h.ha, h.hq, owns_keep h.o K (Nat.le_refl _) (fun k hk hr => owns_ne h.o h.la (by decide) (hr ▸ hk)), h.hn⟩
/-- A young block of a writer is written. -/
theorem young (h : PB w W pa q x y xs A n c) {nb : Nat} {z : PW} (hv : VLoc W nb z) (hne : q ≠ nb) (hnb : w.heap.size ≤ nb) (x' : PW) : PB w (putV W nb x') pa q x y xs A n c :=
 ⟨putV_other h.la (Loc.ne h.la hv (by decide)) x', putV_other h.v hne x', putV_below h.b hnb x', h.ha, h.hq, putV_own h.o (owns_ne h.o hv (by decide)) x', h.hn⟩
theorem putR (h : PB w W pa q x y xs A n c) (y' : PW) : PB w (putV W q y') pa q x y' xs A n c :=
 ⟨putV_other h.la (Loc.ne h.la h.v (by decide)) y', putV_loc h.v y', putV_below h.b h.hq y', h.ha, h.hq, putV_own h.o (owns_ne h.o h.v (by decide)) y', h.hn⟩
theorem grow (h : PB w W pa q x y xs A n c) {ys : Bs} {A' : Option Addr} {n' c' : Nat} (ho : V.ownsRow 0 5 1 (.slice A' n' c') n' (cellsB xs ++ cellsB ys)) (hg : W.grownBy V (Value.slice A n c).ownBlock) (hb : ∀ k, (Value.slice A' n' c').ownBlock = some k → (Value.slice A n c).ownBlock = some k ∨ k = W.heap.size) (hn : n' = (xs ++ ys).length) : PB w V pa q x y (xs ++ ys) A' n' c' := by
 obtain ⟨o, b⟩ := own_next0 h.o ho hg hb h.b.size h.b
 refine ⟨h.la.grown hg (owns_ne h.o h.la (by decide)), Loc.grown h.v hg (owns_ne h.o h.v (by decide)), b, h.ha, h.hq, ?_, hn⟩
 rw [cellsB_append]
 exact o
end PB
theorem Bd.fresh (a b : Nat) (ha : a ≤ 281474976710655) (hb : b ≤ 281474976710655) : Bd 0 (PW.new a b) := ⟨ha, hb, Nat.le_refl _, Nat.le_refl _, Nat.le_refl _⟩

set_option maxRecDepth 100000 in
set_option maxHeartbeats 8000000 in
theorem pplays_any (a b : Int) (l : List PieceC) (A : Option Addr) (cap : Nat) (w : World) (hr : Row w A (piecesCells l)) (hc : ∀ x ∈ l, x.came w) (hl : l.length ≤ maxLen) :
  Calls Tryz.prog 3 #[.int .i64 a, .int .i64 b, .slice A l.length cap] w fun e w' => e = .returned (.bool true) ∧ Below w.heap.size w w' := by
 have hlong := long_any l A cap w hr hc hl
 unfold maxLen at hl
 obtain ⟨n, hn⟩ : ∃ n, n = l.length := ⟨_, rfl⟩
 rw [← hn] at hl hlong ⊢
 have HR := Lib.hid hr
 have HC := Lib.hid hc
 have HN := Lib.hid hn
 have HLG := Lib.hid hlong
 clear hr hc hn hlong
 go_enter Tryz.func3, Tryz.ntmps3
 go_wp2_with fail
 refine HLG.out.mono ?_; rintro e w1 ⟨bb, rfl, b1, hbb⟩
 cases bb with
 | true =>
  go_wp2
  go_ret
  exact ⟨rfl, b1⟩
 | false =>
  have HBB := Lib.hid (hbb rfl)
  clear hbb HLG
  have hsz1 := b1.size
  by_cases hga : 1 ≤ a ∧ a ≤ 281474976710655 ∧ 0 ≤ b ∧ b ≤ 281474976710655
  ·obtain ⟨ia, rfl⟩ : ∃ i : Nat, a = i := ⟨a.toNat, by omega⟩
   obtain ⟨ib, rfl⟩ : ∃ i : Nat, b = i := ⟨b.toNat, by omega⟩
   have hia : 1 ≤ ia ∧ ia ≤ 281474976710655 ∧ ib ≤ 281474976710655 := by omega
   have HN1 := Lib.hid (fun W => pnew_any ia ib hia.1 hia.2.1 hia.2.2 W)
   have HM1 : Hid (∀ W, Calls Tryz.prog 8 #[.int .i64 ia, .int .i64 ib] W fun e w' => e = .returned (.tuple #[.agg #[.int .i64 ia, .int .i64 ib, .int .i64 0, .int .i64 0, .int .i64 0, .string emptyB, .string emptyB, .bool true], .int .i64 0]) ∧ Below W.heap.size W w') := Lib.hid (fun W => r14new_any ia ib hia.1 hia.2.1 hia.2.2 W)
   have HIA := Lib.hid hia
   clear hga hia
   go_upto_region 4 with (go_at_call 7; refine (HN1.out _).mono ?_; rintro e w2 ⟨rfl, rfl⟩)
   have LA := Loc.new w1 ((PW.new ia ib).cells nilS) 56
   have b2 := b1.alloc b1.size (.cells ((PW.new ia ib).cells nilS) 56)
   obtain ⟨pa, hpa⟩ : ∃ pa, pa = w1.heap.size := ⟨_, rfl⟩
   obtain ⟨W2, hW2⟩ : ∃ W2, W2 = w1.alloc (.cells ((PW.new ia ib).cells nilS) 56) := ⟨_, rfl⟩
   rw [← hW2] at LA b2
   rw [← hpa] at LA hsz1
   rw [← hW2, ← hpa]
   clear hW2 hpa b1
   go_upto_region 5 with (go_at_call 8; refine (HM1.out _).mono ?_; rintro e w4 ⟨rfl, b4⟩)
   have ba := (Below.refl w4.heap.size w4).alloc (Nat.le_refl _) (.cells (PW.new ia ib).val 29)
   have b4a := below_then b4 ba b4.size
   have V1 : VLoc (w4.alloc (.cells (PW.new ia ib).val 29)) w4.heap.size (PW.new ia ib) := Loc.new w4 _ _
   have P0 : PB w (w4.alloc (.cells (PW.new ia ib).val 29)) pa w4.heap.size (PW.new ia ib) (PW.new ia ib) [] none 0 0 :=
    ⟨LA.below b4a LA.lt, V1, below_then b2 b4a b2.size, hsz1, by have := b2.size; have := b4.size; omega, World.ownsRow_nil _ _ _ _, rfl⟩
   obtain ⟨q, hq⟩ : ∃ q, q = w4.heap.size := ⟨_, rfl⟩
   obtain ⟨W4, hW4⟩ : ∃ W4, W4 = w4.alloc (.cells (PW.new ia ib).val 29) := ⟨_, rfl⟩
   rw [← hW4, ← hq] at P0
   have hW4' : W4 = w4.alloc (.cells #[.int .i64 ia, .int .i64 ib, .int .i64 0, .int .i64 0, .int .i64 0, .string emptyB, .string emptyB, .bool true] 29) := hW4
   rw [← hW4', ← hq]
   have HP := Lib.hid P0
   clear hW4 hW4' hq b4 ba b4a V1 LA b2 P0 HM1 HN1
   have HPU : Hid (RelW (PW.new ia ib) (PW.new ia ib) ∧ Bd 0 (PW.new ia ib) ∧ Bd 0 (PW.new ia ib) ∧ 0 ≤ 4000000 * 0) := Lib.hid ⟨.inl rfl, Bd.fresh ia ib HIA.out.2.1 HIA.out.2.2, Bd.fresh ia ib HIA.out.2.1 HIA.out.2.2, Nat.le_refl _⟩
   go_wp2_with (fail)
   go_loopw [11, 12] (fun s i wr => ∃ (k : Nat) (x y : PW) (xs : Bs) (G : Option Addr) (m d : Nat), k ≤ n ∧ i = .int .i64 (k : Nat) ∧ s = .slice G m d ∧ Hid (PB w wr pa q x y xs G m d) ∧ Hid (RelW x y ∧ Bd k x ∧ Bd k y ∧ m ≤ 4000000 * k)) (fun _ i _ => n - (intOf i).toNat)
   case atStart => exact ⟨0, _, _, [], none, 0, 0, Nat.zero_le _, rfl, rfl, HP, HPU⟩
   case round =>
    obtain ⟨wi, rfl⟩ : ∃ wi, wi = wr := ⟨_, rfl⟩
    obtain ⟨k, x, y, xs, G, m, d, hk, rfl, rfl, HT, HU⟩ := hrel
    clear HP HPU
    have hn60 : n ≤ 60 := by rw [HN.out]; exact HBB.out.1
    by_cases hkn : k < n
    ·have hkn' : (k : Int) < (n : Int) := by omega
     have hkI : (0 : Int) ≤ (k : Int) := by omega
     have hkl : k < l.length := by rw [← HN.out]; exact hkn
     obtain ⟨bk, off, hAe, hbkl, hcc⟩ := HR.out.pieces (by omega)
     have hcx := hcc k hkl
     have hcm := HC.out l[k] (List.getElem_mem hkl)
     have hlg := HBB.out.2 l[k] (List.getElem_mem hkl)
     generalize l[k] = X at *
     have HX : Hid (∀ V, Below w.heap.size w V → V.cell? ⟨bk, off + k * 3, none⟩ = some (.slice X.P X.ps.length X.cp) ∧ V.cell? ⟨bk, off + k * 3 + 1, none⟩ = some (.slice X.E X.es.length X.ce) ∧ V.cell? ⟨bk, off + k * 3 + 2, none⟩ = some (.bool X.fin)) := Lib.hid (fun V hV => by
      have z0 := hcx 0 (by decide); have z1 := hcx 1 (by decide); have z2 := hcx 2 (by decide)
      simp only [PieceC.cells, List.getElem?_toArray, List.getElem?_cons_zero, List.getElem?_cons_succ, Nat.add_zero] at z0 z1 z2
      exact ⟨by rw [← z0]; exact hV.cell (p := ⟨bk, off + k * 3, none⟩) hbkl, by rw [← z1]; exact hV.cell (p := ⟨bk, off + k * 3 + 1, none⟩) hbkl, by rw [← z2]; exact hV.cell (p := ⟨bk, off + k * 3 + 2, none⟩) hbkl⟩)
     obtain ⟨Q, hQ⟩ : ∃ Q, Q = doQ x (X.ps.map (·.p)) X.es X.fin := ⟨_, rfl⟩
     obtain ⟨xa, hxa⟩ : ∃ z, z = Q.1.2 := ⟨_, rfl⟩
     obtain ⟨ys, hys⟩ : ∃ z, z = Q.1.1 := ⟨_, rfl⟩
     obtain ⟨ya, hya⟩ : ∃ z, z = (doR y (X.ps.map (·.p)) X.es X.fin).1.2 := ⟨_, rfl⟩
     have hyl : ys.length ≤ 4000000 := by rw [hys, hQ]; exact do_len _ _ _ _
     have HDO : Hid (∀ V, PB w V pa q x y xs G m d → Calls Tryz.prog 10 #[.pointer (some ⟨pa, 0, none⟩), .agg #[.int .i64 y.number, .int .i64 y.mark, .int .i64 y.frames, .int .i64 y.procs, .int .i64 y.entries, .string y.name, .string y.key, .bool y.live], .agg #[.slice X.P X.ps.length X.cp, .slice X.E X.es.length X.ce, .bool X.fin]] V fun e w' => ∃ A9 n9 c9, n9 = ys.length ∧ e = .returned (.tuple #[.slice A9 n9 c9, .agg #[.int .i64 ya.number, .int .i64 ya.mark, .int .i64 ya.frames, .int .i64 ya.procs, .int .i64 ya.entries, .string ya.name, .string ya.key, .bool ya.live], .bool true]) ∧ w'.ownsRow V.heap.size 5 1 (.slice A9 n9 c9) n9 (cellsB ys) ∧ Loc w' pa (xa.cells nilS) 56 ∧ Keep V.heap.size (· = pa) V w') := Lib.hid (fun V hV => by
      rw [hxa, hys, hya, hQ]
      exact does_any pa k x y X w V hV.la hcm hV.b hV.ha HU.out.1 HU.out.2.1 HU.out.2.2.1 (by omega) hlg.1 hlg.2.1 hlg.2.2)
     have HU2 : Hid (RelW xa ya ∧ Bd (k + 1) xa ∧ Bd (k + 1) ya ∧ m + ys.length ≤ 4000000 * (k + 1)) := Lib.hid (by
      have h1 := do_rel HU.out.1 (X.ps.map (·.p)) X.es X.fin
      have h2 := do_bd (ps := X.ps.map (·.p)) (es := X.es) (fin := X.fin) HU.out.2.1
      have h3 := do_bd (ps := X.ps.map (·.p)) (es := X.es) (fin := X.fin) HU.out.2.2.1
      rw [← hQ, ← hxa, ← hya] at h1
      rw [← hQ, ← hxa] at h2
      rw [← hya] at h3
      exact ⟨h1.2.2, h2.1, h3.2, by have := HU.out.2.2.2; omega⟩)
     have hm60 : m ≤ 240000000 := by have := HU.out.2.2.2; omega
     have HAE := Lib.hid hAe
     clear hcc hcx hcm hlg hAe hQ hxa hys hya HU
     rw [HAE.out]
     have hk60 : (k : Int) < 60 := by omega
     have T := HT.out
     obtain ⟨s0, s1, s2, s3, s4, s5, s6, s7⟩ := VLoc.cells T.v
     obtain ⟨s8, s9, s10⟩ := HX.out wi T.b
     have hlq := Loc.lt T.v
     clear HT
     go_upto_region 13 with (fail)
     refine wp_region_noPanic ?_
     have T1 := T.drew
     have T2 : PB w (wi.alloc (.cells #[.int .i64 0, .int .i64 0, .int .i64 0, .int .i64 0, .int .i64 0, .string ⟨#[]⟩, .string ⟨#[]⟩, .bool false] 29)).drew pa q x y xs G m d := (T.alloc (.cells PW.zero.val 29)).drew
     have Z2 : VLoc (wi.alloc (.cells #[.int .i64 0, .int .i64 0, .int .i64 0, .int .i64 0, .int .i64 0, .string ⟨#[]⟩, .string ⟨#[]⟩, .bool false] 29)).drew wi.heap.size PW.zero := Loc.drew (Loc.new wi PW.zero.val 29)
     have hpq : pa < wi.heap.size := T.la.lt
     have hwi : w.heap.size ≤ wi.heap.size := T.b.size
     have hbk1 : bk < wi.heap.size := by omega
     have hbk2 : bk ≠ wi.heap.size := by omega
     have HT1 := Lib.hid T1
     have HT2 := Lib.hid T2
     have HZ2 := Lib.hid Z2
     clear T T1 T2 Z2
     go_region_law ((go_simp; go_at_call 10; refine (HDO.out _ (by first | (with_reducible exact HT1.out) | (with_reducible exact HT2.out))).mono ?_; rintro e5 w5 ⟨A5, n5, c5, hn5, rfl, o5, L5, K5⟩; (first | (have Z5 : VLoc w5 wi.heap.size PW.zero := Loc.keep HZ2.out K5 (Loc.lt HZ2.out) (show wi.heap.size ≠ pa by omega)); (obtain ⟨z0, z1, z2, z3, z4, z5, z6, z7⟩ := Z5.cells); (obtain ⟨f0, f1, f2, f3, f4, f5, f6, f7⟩ := VLoc.free8 Z5) | skip)))
     all_goals
      subst hn5
      refine NoPanic.normal ?_
      go_upto_region 14 with (fail)
      first
       | (obtain ⟨w6, hw6⟩ : ∃ w6, w6 = w5.alloc (.cells #[.int .i64 ya.number, .int .i64 ya.mark, .int .i64 ya.frames, .int .i64 ya.procs, .int .i64 ya.entries, .string ya.name, .string ya.key, .bool ya.live] 29) := ⟨_, rfl⟩
          rw [← hw6]
          have HN6 : Hid (PB w w6 pa q xa y xs G m d ∧ VLoc w6 w5.heap.size ya ∧ w6.ownsRow 0 5 1 (.slice A5 ys.length c5) ys.length (cellsB ys)) := Lib.hid (by
           rw [hw6]
           exact ⟨(HT1.out.step L5 K5).alloc (.cells ya.val 29), Loc.new w5 ya.val 29, owns_base (base' := 0) (owns_mono' o5 ((Below.refl _ _).alloc (Nat.le_refl _) (.cells ya.val 29))) (fun _ _ => Nat.zero_le _)⟩)
          clear hw6
          generalize w5.heap.size = nb at HN6 ⊢)
       | (obtain ⟨w6, hw6⟩ : ∃ w6, w6 = ((((((((w5.setCell ⟨wi.heap.size, 0, none⟩ (.int .i64 ya.number)).setCell ⟨wi.heap.size, 1, none⟩ (.int .i64 ya.mark)).setCell ⟨wi.heap.size, 2, none⟩ (.int .i64 ya.frames)).setCell ⟨wi.heap.size, 3, none⟩ (.int .i64 ya.procs)).setCell ⟨wi.heap.size, 4, none⟩ (.int .i64 ya.entries)).setCell ⟨wi.heap.size, 5, none⟩ (.string ya.name)).setCell ⟨wi.heap.size, 6, none⟩ (.string ya.key)).setCell ⟨wi.heap.size, 7, none⟩ (.bool ya.live)) := ⟨_, rfl⟩
          rw [← hw6]
          have HN6 : Hid (PB w w6 pa q xa y xs G m d ∧ VLoc w6 wi.heap.size ya ∧ w6.ownsRow 0 5 1 (.slice A5 ys.length c5) ys.length (cellsB ys)) := Lib.hid (by
           rw [hw6]
           have h5 : VLoc w5 wi.heap.size PW.zero := Loc.keep HZ2.out K5 (Loc.lt HZ2.out) (show wi.heap.size ≠ pa by omega)
           exact ⟨(HT2.out.step L5 K5).young h5 (by omega) hwi ya, putV_loc h5 ya, putV_own (owns_base (base' := 0) o5 (fun _ _ => Nat.zero_le _)) (owns_ne o5 h5 (by decide)) ya⟩)
          clear hw6
          try clear Z5 z0 z1 z2 z3 z4 z5 z6 z7 f0 f1 f2 f3 f4 f5 f6 f7
          generalize wi.heap.size = nb at HN6 ⊢)
      obtain ⟨P6, V6, o6⟩ := HN6.out
      obtain ⟨z0, z1, z2, z3, z4, z5, z6, z7⟩ := VLoc.cells V6
      obtain ⟨u0, u1, u2, u3, u4, u5, u6, u7⟩ := VLoc.cells P6.v
      obtain ⟨f0, f1, f2, f3, f4, f5, f6, f7⟩ := VLoc.free8 P6.v
      clear HT1 HT2 HZ2 L5 K5 o5 HDO HN6 s0 s1 s2 s3 s4 s5 s6 s7 s8 s9 s10
      go_upto_region 17 with (fail)
      have P7 := P6.putR ya
      have o7 := putV_own o6 (owns_ne o6 P6.v (by decide)) ya
      unfold putV at P7 o7
      obtain ⟨w7, hw7⟩ : ∃ w7, w7 = ((((((((w6.setCell ⟨q, 0, none⟩ (.int .i64 ya.number)).setCell ⟨q, 1, none⟩ (.int .i64 ya.mark)).setCell ⟨q, 2, none⟩ (.int .i64 ya.frames)).setCell ⟨q, 3, none⟩ (.int .i64 ya.procs)).setCell ⟨q, 4, none⟩ (.int .i64 ya.entries)).setCell ⟨q, 5, none⟩ (.string ya.name)).setCell ⟨q, 6, none⟩ (.string ya.key)).setCell ⟨q, 7, none⟩ (.bool ya.live)) := ⟨_, rfl⟩
      rw [← hw7] at P7 o7 ⊢
      clear hw7 P6 V6 o6 z0 z1 z2 z3 z4 z5 z6 z7 u0 u1 u2 u3 u4 u5 u6 u7 f0 f1 f2 f3 f4 f5 f6 f7
      have hsrc := (Row.of_owns o7).src (P := Tryz.prog) (size := 1) (n := ys.length) (c := c5) (tx := 33) Tryz.underlying33 (by rw [cellsB_length]; omega) (cellsB_one ys) (owns_none o7)
      have HSRC := Lib.hid hsrc
      have HOWN := Lib.hid (owns_base (base' := 0) P7.o (fun _ _ => Nat.zero_le _))
      have HXL := Lib.hid P7.hn
      obtain ⟨ny, hny⟩ : ∃ ny, ny = ys.length := ⟨_, rfl⟩
      rw [← hny] at HSRC hyl ⊢
      have HNY := Lib.hid hny
      clear hsrc o7 hny
      go_wp2_with (at_builtin; refine wpList_append_mine _ rfl _ _ 33 33 rfl 5 (.int .u8 0) 1 1 Tryz.underlying33 infoU8 rfl (by decide) (.slice G m d) m (cellsB xs) rfl HOWN.out (.slice A5 ny c5) ny (cellsB ys) rfl HSRC.out (by unfold maxLen; omega) (by omega) ?_; intro A9 c9 w9 hown hg hbl hx; have P9 := P7.grow hown hg hbl (by rw [List.length_append, ← HXL.out, ← HNY.out]); clear hown hg hbl hx P7)
      go_roundw
      case rel => exact ⟨k + 1, xa, ya, xs ++ ys, A9, m + ny, c9, by omega, by go_num, rfl, Lib.hid P9, by rw [HNY.out]; exact HU2⟩
      case measure => simp [intOf]; omega
    ·have hkn' : ¬ (k : Int) < (n : Int) := by omega
     have hm60 : m ≤ 240000000 := by have := HU.out.2.2.2; omega
     have T := HT.out
     have hmd : m ≤ d := owns_room T.o
     have HXL := Lib.hid T.hn
     obtain ⟨pe, hpe⟩ : ∃ pe, pe = (pageRead xs).2 := ⟨_, rfl⟩
     have HPE := Lib.hid hpe
     clear hpe HT HU
     go_upto_region 18 with (fail)
     go_wp2_with fail
     refine (pread_any G m d xs _ (Row.of_owns T.o) HXL.out hmd (by omega)).mono ?_; rintro e w7 ⟨m2, hm2, rfl, I3, hb⟩
     rw [← HPE.out]
     unfold RM.img
     have HM2 := Lib.hid hm2
     have T8 := T.below hb
     have LP3 := Loc.new w7 m2.img 41
     have d7 := (Below.refl w7.heap.size w7).alloc (Nat.le_refl _) (.cells m2.img 41)
     have o3 := I3.under d7
     have T9 := T8.below d7
     clear I3 hb d7 T T8 hm2
     unfold RM.img at LP3 o3 T9
     go_wp2_with fail
     refine (r14read_any G m d xs _ (Row.of_owns T9.o) HXL.out hmd (by omega)).mono ?_; rintro e w8 ⟨s2, g2, hs2, rfl, I4, hb⟩
     rw [← HPE.out]
     unfold imV
     have HS2 := Lib.hid hs2
     have LQ3 := Loc.new w8 (imV s2 g2) 41
     have d8 := (Below.refl w8.heap.size w8).alloc (Nat.le_refl _) (.cells (imV s2 g2) 41)
     have o5 := (o3.under hb).under d8
     have o6 := I4.below d8
     have LP4 := (LP3.below hb LP3.lt).below d8 (LP3.below hb LP3.lt).lt
     have T10 := (T9.below hb).below d8
     have hw8 := hb.size
     simp only [World.size_alloc] at hw8
     have HSM2 : Hid (∀ V' B1 B2, ImgO V' B1 m2 → Img B2 V' s2 g2 → Calls Tryz.prog 13 #[.agg #[.int .i64 m2.s.number, .int .i64 m2.s.mark, .slice m2.P m2.pl.length m2.cp, .slice m2.E m2.s.entries.length m2.ce], .agg #[.int .i64 s2.number, .int .i64 s2.mark, .slice g2.P g2.pl.length g2.cp, .slice g2.E s2.entries.length g2.ce]] V' fun e w' => e = .returned (.bool true) ∧ Below V'.heap.size V' w') := Lib.hid (fun V' B1 B2 h h' => rimages_any xs (by rw [← HXL.out]; omega) m2 s2 g2 B1 B2 V' HM2.out HS2.out h h')
     unfold imV at LQ3 o5 o6 LP4 T10
     have p0 := LP4.cell 0; have p1 := LP4.cell 1; have p2 := LP4.cell 2; have p3 := LP4.cell 3
     have q0 := LQ3.cell 0; have q1 := LQ3.cell 1; have q2 := LQ3.cell 2; have q3 := LQ3.cell 3
     simp only [List.getElem?_toArray, List.getElem?_cons_zero, List.getElem?_cons_succ] at p0 p1 p2 p3 q0 q1 q2 q3
     clear I4 hb d8 T9 o3 LP3 hs2
     go_wp2_with fail
     refine (HSM2.out _ _ _ o5 o6).mono ?_; rintro e w9 ⟨rfl, hb⟩
     have T11 := T10.below hb
     clear T10 hb p0 p1 p2 p3 q0 q1 q2 q3 o5 o6 LP4 LQ3
     go_wp2_with fail
     refine (known_any _).mono ?_; rintro e w11 ⟨rfl, hb⟩
     go_wp2
     go_ret
     exact ⟨rfl, below_then T11.b hb T11.b.size⟩
  ·have HN1 := Lib.hid (fun W => plnew_no a b (by omega) W)
   have HM1 : Hid (∀ W, Calls Tryz.prog 8 #[.int .i64 a, .int .i64 b] W fun e w' => e = .returned (.tuple #[.agg #[.int .i64 0, .int .i64 0, .int .i64 0, .int .i64 0, .int .i64 0, .string ⟨#[]⟩, .string ⟨#[]⟩, .bool false], .int .i64 1]) ∧ Below W.heap.size W w') := Lib.hid (fun W => r14new_no a b (by omega) W)
   clear hga
   go_upto_region 4 with (go_at_call 7; refine (HN1.out _).mono ?_; rintro e w2 ⟨rfl, rfl⟩)
   go_upto_region 5 with (go_at_call 8; refine (HM1.out _).mono ?_; rintro e w4 ⟨rfl, b4⟩; have b24 := (below_then b1 b4 b1.size).alloc (below_then b1 b4 b1.size).size (.cells PW.zero.val 29))
   go_wp2_with (go_at_call 9; refine (known_any _).mono ?_; rintro e w9 ⟨rfl, b9⟩)
   go_ret
   exact ⟨rfl, below_then b24 b9 b24.size⟩
end Go.Proofs.YtnieminnnkbneaaGreat
