/- Walks of treadlelaw14: procs, entries, images. -/
import Derived.Test.YtnieminnnkbneaaGreatLkn
import Derived.Test.YtnieminnnkbneaaGreatLop
namespace Go.Proofs.YtnieminnnkbneaaGreat
open Go.RowKit

def Ent.eqv (x y : Ent) : Bool := x.key.toList == y.key.toList && x.v.eqv y.v
theorem Ent.eqv_iff (x y : Ent) : x.eqv y = true ↔ x = y := by
 obtain ⟨xk, xv⟩ := x
 obtain ⟨yk, yv⟩ := y
 simp [Ent.eqv, ba_eq, Val.eqv_iff]
theorem eqInEnt (d : Nat) (x y : Ent) (w : World) :
  (Op.equalIn (d + 3) 62 (.agg x.cells) (.agg y.cells)).run Tryz.prog w = .ok (x.eqv y) w := by
 obtain ⟨x0, ⟨x1, x2, x3⟩⟩ := x
 obtain ⟨y0, ⟨y1, y2, y3⟩⟩ := y
 unfold Ent.cells
 go_simp
 simp only [Ent.eqv, Val.eqv]
 by_cases h0 : x0.toList = y0.toList
 ·by_cases h1 : x1 = y1
  ·by_cases h2 : x2 = y2
   ·by_cases h3 : x3.toList = y3.toList <;> simp [h0, h1, h2, h3]
   ·simp [h0, h1, h2]
  ·simp [h0, h1]
 ·simp [h0]

/-- What a comparison answers. -/
def CmpP (P : Prop) (w : World) (e : Ending) (w' : World) : Prop := (∃ res, e = .returned (.bool res) ∧ (res = true ↔ P)) ∧ Below w.heap.size w w'
theorem CmpP.yes {P : Prop} {w w' : World} (h : P) (hb : Below w.heap.size w w') : CmpP P w (.returned (.bool true)) w' := ⟨⟨true, rfl, by simp [h]⟩, hb⟩
theorem CmpP.no {P : Prop} {w w' : World} (h : ¬ P) (hb : Below w.heap.size w w') : CmpP P w (.returned (.bool false)) w' := ⟨⟨false, rfl, by simp [h]⟩, hb⟩

set_option maxHeartbeats 4000000 in
theorem entries_any (xs ys : List Ent) (A B : Option Addr) (ca cb : Nat) (w : World) (ha : Row w A (entsCells xs)) (hb : Row w B (entsCells ys)) (hla : xs.length ≤ 140737488355328) (hlb : ys.length ≤ 140737488355328) :
  Calls Tryz.prog 33 #[.slice A xs.length ca, .slice B ys.length cb] w (CmpP (xs = ys) w) := by
 have HA := Lib.hid ha
 have HB := Lib.hid hb
 obtain ⟨N, hN⟩ : ∃ N, N = xs.length := ⟨_, rfl⟩
 obtain ⟨M, hM⟩ : ∃ M, M = ys.length := ⟨_, rfl⟩
 rw [← hN] at hla ⊢
 rw [← hM] at hlb ⊢
 have HN := Lib.hid hN
 have HM := Lib.hid hM
 clear ha hb hN hM
 by_cases h3 : N = M
 ·subst h3
  go_enter Tryz.func33, Tryz.ntmps33
  go_wp2
  go_loopw [5] (fun i wr => ∃ k : Nat, k ≤ N ∧ i = .int .i64 k ∧ (∃ d, wr = w.drewN d) ∧ Hid (xs.take k = ys.take k)) (fun i _ => N - (intOf i).toNat)
  case atStart => exact ⟨0, Nat.zero_le _, rfl, ⟨0, rfl⟩, Lib.hid rfl⟩
  case round =>
   obtain ⟨wi, rfl⟩ : ∃ wi, wi = wr := ⟨_, rfl⟩
   obtain ⟨k, hk, rfl, ⟨d, rfl⟩, HTK⟩ := hrel
   by_cases hkn : k < N
   ·have hkp : k < xs.length := by rw [← HN.out]; exact hkn
    have hkq : k < ys.length := by rw [← HM.out]; exact hkn
    obtain ⟨b, off, rfl, _, hc⟩ := HA.out.ents (by omega)
    obtain ⟨b', off', rfl, _, hc'⟩ := HB.out.ents (by omega)
    have hx1 : xs.take (k + 1) = xs.take k ++ [xs[k]] := List.take_succ_eq_append_getElem hkp
    have hy1 : ys.take (k + 1) = ys.take k ++ [ys[k]] := List.take_succ_eq_append_getElem hkq
    have hne : xs[k] ≠ ys[k] → xs ≠ ys := fun h e => h (by subst e; rfl)
    have hcx := hc k hkp
    have hcy := hc' k hkq
    generalize xs[k] = X at *
    generalize ys[k] = Y at *
    have hq := fun W => eqInEnt 9997 X Y W
    obtain ⟨res, hres⟩ : ∃ res, res = X.eqv Y := ⟨_, rfl⟩
    rw [← hres] at hq
    have hiff := Ent.eqv_iff X Y
    rw [← hres] at hiff
    obtain ⟨xk, xv⟩ := X
    obtain ⟨yk, yv⟩ := Y
    have x0 := hcx 0 (by decide); have x1 := hcx 1 (by decide); have x2 := hcx 2 (by decide); have x3 := hcx 3 (by decide)
    have y0 := hcy 0 (by decide); have y1 := hcy 1 (by decide); have y2 := hcy 2 (by decide); have y3 := hcy 3 (by decide)
    simp only [Ent.cells, List.getElem?_toArray, List.getElem?_cons_zero, List.getElem?_cons_succ, Nat.add_zero] at x0 x1 x2 x3 y0 y1 y2 y3 hq
    have hkn' : (k : Int) < (N : Int) := by omega
    have HX := Lib.hid hx1
    have HY := Lib.hid hy1
    have HNE := Lib.hid hne
    have HIFF := Lib.hid hiff
    clear hc hc' hx1 hy1 hne hcx hcy hiff hres
    have hq2 : ∀ W, (Op.equal 62 (.agg #[.string xk, .int .i64 xv.kind, .int .i64 xv.num, .string xv.text]) (.agg #[.string yk, .int .i64 yv.kind, .int .i64 yv.num, .string yv.text])).run Tryz.prog W = .ok res W := hq
    clear hq
    cases res with
    | true =>
     go_wp2
     refine wp_region_quiet_lit (by kernel_rfl) (by kernel_rfl) ?_
     repeat (quiet_step (fail))
     refine wpQuiet_step (fun K hK => ?_)
     rw [if_pos (by rfl)]
     refine quiet_neq _ _ _ _ rfl true _ _ rfl rfl hq2 (fun w => by kernel_rfl) ?_
     refine hK _ ?_
     clear hK K
     refine wpQuiet_nil ?_
     intro _ hw'
     obtain ⟨nq, hw''⟩ := hw'
     subst hw''
     simp only [Act.put, List.setIfInBounds_toArray, List.set_cons_zero, List.set_cons_succ, Bool.not_true]
     go_wp2
     go_roundw
     case rel => exact ⟨k + 1, by omega, by go_num, ⟨_, rfl⟩, Lib.hid (by rw [HX.out, HY.out, HTK.out, HIFF.out.1 (by simp)])⟩
     case measure => simp [intOf]; omega
    | false =>
     go_wp2
     refine wp_region_quiet_lit (by kernel_rfl) (by kernel_rfl) ?_
     repeat (quiet_step (fail))
     refine wpQuiet_step (fun K hK => ?_)
     rw [if_pos (by rfl)]
     refine quiet_neq _ _ _ _ rfl false _ _ rfl rfl hq2 (fun w => by kernel_rfl) ?_
     refine hK _ ?_
     clear hK K
     refine wpQuiet_nil ?_
     intro _ hw'
     obtain ⟨nq, hw''⟩ := hw'
     subst hw''
     simp only [Act.put, List.setIfInBounds_toArray, List.set_cons_zero, List.set_cons_succ, Bool.not_false]
     go_wp2
     go_ret
     exact .no (HNE.out (fun h => by have := HIFF.out.2 h; simp at this)) (below_drewN (below_drewN (Below.refl _ _) _) _)
   ·obtain rfl : k = N := by omega
    go_wp2
    go_ret
    have h := HTK.out
    rw [List.take_of_length_le (by rw [← HN.out]; exact Nat.le_refl _), List.take_of_length_le (by rw [← HM.out]; exact Nat.le_refl _)] at h
    exact .yes h (below_drewN (Below.refl _ _) _)
 ·have t1 : ((N : Int) != (M : Int)) = true := by simp; omega
  have HNE : Hid (¬ xs = ys) := Lib.hid (fun h => h3 (by rw [HN.out, HM.out, h]))
  clear h3
  go_enter Tryz.func33, Tryz.ntmps33
  go_wp2
  go_ret
  exact .no HNE.out (Below.refl _ _)

set_option maxHeartbeats 4000000 in
theorem procs_any (xs ys : List PrcC) (A B : Option Addr) (ca cb : Nat) (w : World) (ha : Row w A (prcsCells xs)) (hb : Row w B (prcsCells ys)) (hla : xs.length ≤ 140737488355328) (hlb : ys.length ≤ 140737488355328) (hxo : ∀ x ∈ xs, x.ok w) (hyo : ∀ y ∈ ys, y.ok w) :
  Calls Tryz.prog 32 #[.slice A xs.length ca, .slice B ys.length cb] w (CmpP (xs.map (·.p) = ys.map (·.p)) w) := by
 have HA := Lib.hid ha
 have HB := Lib.hid hb
 have HXO := Lib.hid hxo
 have HYO := Lib.hid hyo
 obtain ⟨N, hN⟩ : ∃ N, N = xs.length := ⟨_, rfl⟩
 obtain ⟨M, hM⟩ : ∃ M, M = ys.length := ⟨_, rfl⟩
 rw [← hN] at hla ⊢
 rw [← hM] at hlb ⊢
 have HN := Lib.hid hN
 have HM := Lib.hid hM
 clear ha hb hN hM hxo hyo
 by_cases h3 : N = M
 ·subst h3
  go_enter Tryz.func32, Tryz.ntmps32
  go_wp2
  go_loopw [5] (fun i wr => ∃ k : Nat, k ≤ N ∧ i = .int .i64 k ∧ Below w.heap.size w wr ∧ Hid ((xs.map (·.p)).take k = (ys.map (·.p)).take k)) (fun i _ => N - (intOf i).toNat)
  case atStart => exact ⟨0, Nat.zero_le _, rfl, Below.refl _ _, Lib.hid rfl⟩
  case round =>
   obtain ⟨wi, rfl⟩ : ∃ wi, wi = wr := ⟨_, rfl⟩
   obtain ⟨k, hk, rfl, bI, HTK⟩ := hrel
   by_cases hkn : k < N
   ·have hkp : k < xs.length := by rw [← HN.out]; exact hkn
    have hkq : k < ys.length := by rw [← HM.out]; exact hkn
    obtain ⟨b, off, rfl, hbl, hc⟩ := HA.out.prcs (by omega)
    obtain ⟨b', off', rfl, hbl', hc'⟩ := HB.out.prcs (by omega)
    have hx1 : (xs.map (·.p)).take (k + 1) = (xs.map (·.p)).take k ++ [(xs[k]).p] := by rw [List.take_succ_eq_append_getElem (by rw [List.length_map]; exact hkp), List.getElem_map]
    have hy1 : (ys.map (·.p)).take (k + 1) = (ys.map (·.p)).take k ++ [(ys[k]).p] := by rw [List.take_succ_eq_append_getElem (by rw [List.length_map]; exact hkq), List.getElem_map]
    have hne : (xs[k]).p ≠ (ys[k]).p → xs.map (·.p) ≠ ys.map (·.p) := fun h e => h (by
     have h1 : (xs.map (·.p))[k]? = some (xs[k]).p := by rw [List.getElem?_map, List.getElem?_eq_getElem hkp]; rfl
     have h2 : (ys.map (·.p))[k]? = some (ys[k]).p := by rw [List.getElem?_map, List.getElem?_eq_getElem hkq]; rfl
     rw [e, h2] at h1
     exact (Option.some.inj h1).symm)
    have hcx := hc k hkp
    have hcy := hc' k hkq
    have ox := HXO.out xs[k] (List.getElem_mem hkp)
    have oy := HYO.out ys[k] (List.getElem_mem hkq)
    generalize xs[k] = X at *
    generalize ys[k] = Y at *
    have hcall : ∀ W, Below w.heap.size w W → Calls Tryz.prog 71 #[.agg X.cells, .agg Y.cells] W fun e w' => (∃ res, e = .returned (.bool res) ∧ (res = true ↔ X.p = Y.p)) ∧ Below W.heap.size W w' := fun W hB =>
     refSame_any X.p Y.p X.A Y.A X.c Y.c W (ox.below hB).r (oy.below hB).r ox.l oy.l
    have x0 := hcx 0 (by decide); have x1 := hcx 1 (by decide); have x2 := hcx 2 (by decide)
    have y0 := hcy 0 (by decide); have y1 := hcy 1 (by decide); have y2 := hcy 2 (by decide)
    unfold PrcC.cells procCells at hcall
    simp only [PrcC.cells, procCells, List.getElem?_toArray, List.getElem?_cons_zero, List.getElem?_cons_succ, Nat.add_zero] at x0 x1 x2 y0 y1 y2
    have hkn' : (k : Int) < (N : Int) := by omega
    have hkI : (0 : Int) ≤ (k : Int) := by omega
    have HX := Lib.hid hx1
    have HY := Lib.hid hy1
    have HNE := Lib.hid hne
    have HCALL := Lib.hid hcall
    have HS : Hid (∀ W, Below w.heap.size w W → W.cell? ⟨b, off + k * 3, none⟩ = some (.string X.p.name) ∧ W.cell? ⟨b, off + k * 3 + 1, none⟩ = some (.int .i64 X.p.args) ∧ W.cell? ⟨b, off + k * 3 + 2, none⟩ = some (.slice X.A X.p.code.length X.c) ∧ W.cell? ⟨b', off' + k * 3, none⟩ = some (.string Y.p.name) ∧ W.cell? ⟨b', off' + k * 3 + 1, none⟩ = some (.int .i64 Y.p.args) ∧ W.cell? ⟨b', off' + k * 3 + 2, none⟩ = some (.slice Y.A Y.p.code.length Y.c)) := Lib.hid (fun W hB =>
     ⟨by rw [← x0]; exact hB.cell (p := ⟨b, off + k * 3, none⟩) hbl, by rw [← x1]; exact hB.cell (p := ⟨b, off + k * 3 + 1, none⟩) hbl, by rw [← x2]; exact hB.cell (p := ⟨b, off + k * 3 + 2, none⟩) hbl, by rw [← y0]; exact hB.cell (p := ⟨b', off' + k * 3, none⟩) hbl', by rw [← y1]; exact hB.cell (p := ⟨b', off' + k * 3 + 1, none⟩) hbl', by rw [← y2]; exact hB.cell (p := ⟨b', off' + k * 3 + 2, none⟩) hbl'⟩)
    have bId := below_then bI ((Below.refl wi.heap.size wi).drew) bI.size
    clear hc hc' hx1 hy1 hne hcx hcy ox oy hcall x0 x1 x2 y0 y1 y2
    go_upto_region 6 with (fail)
    go_region_held3 (fun W => W.cell? ⟨b, off + k * 3, none⟩ = some (.string X.p.name) ∧ W.cell? ⟨b, off + k * 3 + 1, none⟩ = some (.int .i64 X.p.args) ∧ W.cell? ⟨b, off + k * 3 + 2, none⟩ = some (.slice X.A X.p.code.length X.c) ∧ W.cell? ⟨b', off' + k * 3, none⟩ = some (.string Y.p.name) ∧ W.cell? ⟨b', off' + k * 3 + 1, none⟩ = some (.int .i64 Y.p.args) ∧ W.cell? ⟨b', off' + k * 3 + 2, none⟩ = some (.slice Y.A Y.p.code.length Y.c)) ((first | (with_reducible exact HS.out _ z4) | exact HS.out _ bId | exact HS.out _ bI)) ((go_at_call 71; refine (HCALL.out _ bId).mono ?_; rintro e w4 ⟨⟨res, rfl, hiff⟩, b4⟩; have z4 := below_then bId b4 bId.size; have HIFF := Lib.hid hiff; clear hiff))
    cases res with
    | true =>
     go_wp2
     go_roundw
     case rel => exact ⟨k + 1, by omega, by go_num, z4, Lib.hid (by rw [HX.out, HY.out, HTK.out, HIFF.out.1 rfl])⟩
     case measure => simp [intOf]; omega
    | false =>
     go_wp2
     go_ret
     exact .no (HNE.out (fun h => by have := HIFF.out.2 h; simp at this)) z4
   ·obtain rfl : k = N := by omega
    go_wp2
    go_ret
    have h := HTK.out
    rw [List.take_of_length_le (by rw [List.length_map, ← HN.out]; exact Nat.le_refl _), List.take_of_length_le (by rw [List.length_map, ← HM.out]; exact Nat.le_refl _)] at h
    exact .yes h bI
 ·have t1 : ((N : Int) != (M : Int)) = true := by simp; omega
  have HNE : Hid (¬ xs.map (·.p) = ys.map (·.p)) := Lib.hid (fun h => h3 (by rw [HN.out, HM.out]; have := congrArg List.length h; simpa using this))
  clear h3
  go_enter Tryz.func32, Tryz.ntmps32
  go_wp2
  go_ret
  exact .no HNE.out (Below.refl _ _)

set_option maxHeartbeats 4000000 in
theorem images_any (n1 m1 n2 m2 : Int) (xs ys : List PrcC) (es fs : List Ent) (A B C D : Option Addr) (ca cb cc cd : Nat) (w : World) (ha : Row w A (prcsCells xs)) (hb : Row w B (prcsCells ys)) (hc : Row w C (entsCells es)) (hd : Row w D (entsCells fs))
  (hla : xs.length ≤ 140737488355328) (hlb : ys.length ≤ 140737488355328) (hlc : es.length ≤ 140737488355328) (hld : fs.length ≤ 140737488355328) (hxo : ∀ x ∈ xs, x.ok w) (hyo : ∀ y ∈ ys, y.ok w) :
  Calls Tryz.prog 13 #[.agg #[.int .i64 n1, .int .i64 m1, .slice A xs.length ca, .slice C es.length cc], .agg #[.int .i64 n2, .int .i64 m2, .slice B ys.length cb, .slice D fs.length cd]] w (CmpP (n1 = n2 ∧ m1 = m2 ∧ xs.map (·.p) = ys.map (·.p) ∧ es = fs) w) := by
 have LA := Loc.new w #[.int .i64 n1, .int .i64 m1, .slice A xs.length ca, .slice C es.length cc] 41
 have LB := Loc.new (w.alloc (.cells #[.int .i64 n1, .int .i64 m1, .slice A xs.length ca, .slice C es.length cc] 41)) #[.int .i64 n2, .int .i64 m2, .slice B ys.length cb, .slice D fs.length cd] 41
 have LA2 := LA.alloc (.cells #[.int .i64 n2, .int .i64 m2, .slice B ys.length cb, .slice D fs.length cd] 41)
 simp only [World.size_alloc] at LB
 have b2 := (((Below.refl w.heap.size w).alloc (Nat.le_refl _) (.cells #[.int .i64 n1, .int .i64 m1, .slice A xs.length ca, .slice C es.length cc] 41)).alloc (by simp) (.cells #[.int .i64 n2, .int .i64 m2, .slice B ys.length cb, .slice D fs.length cd] 41))
 have x0 := LA2.cell 0; have x1 := LA2.cell 1; have x2 := LA2.cell 2; have x3 := LA2.cell 3
 have y0 := LB.cell 0; have y1 := LB.cell 1; have y2 := LB.cell 2; have y3 := LB.cell 3
 simp only [List.getElem?_toArray, List.getElem?_cons_zero, List.getElem?_cons_succ] at x0 x1 x2 x3 y0 y1 y2 y3
 by_cases hn : n1 = n2
 ·have t1 : (n1 == n2) = true := by simpa using hn
  by_cases hm : m1 = m2
  ·have t2 : (m1 == m2) = true := by simpa using hm
   have hp := fun W (h : Below w.heap.size w W) => procs_any xs ys A B ca cb W (ha.of_below h (Nat.le_refl _)) (hb.of_below h (Nat.le_refl _)) hla hlb (fun x hx => (hxo x hx).below h) (fun x hx => (hyo x hx).below h)
   have he := fun W (h : Below w.heap.size w W) => entries_any es fs C D cc cd W (hc.of_below h (Nat.le_refl _)) (hd.of_below h (Nat.le_refl _)) hlc hld
   generalize xs.length = N1 at *
   generalize ys.length = N2 at *
   generalize es.length = N3 at *
   generalize fs.length = N4 at *
   have HP := Lib.hid hp
   have HE := Lib.hid he
   have HN := Lib.hid hn
   have HM := Lib.hid hm
   clear hp he ha hb hc hd hxo hyo hn hm LA
   go_enter Tryz.func13, Tryz.ntmps13
   go_wp2_with fail
   refine (HP.out _ b2).mono ?_; rintro e w3 ⟨⟨r, rfl, hr⟩, hb3⟩
   have LA3 := LA2.below hb3 LA2.lt
   have LB3 := LB.below hb3 LB.lt
   have b3 := below_then b2 hb3 b2.size
   have z3 := LA3.cell 3; have u3 := LB3.cell 3
   simp only [List.getElem?_toArray, List.getElem?_cons_zero, List.getElem?_cons_succ] at z3 u3
   clear hb3 LA2 LB b2 x0 x1 x2 x3 y0 y1 y2 y3
   cases r with
   | false =>
    have HR := Lib.hid hr
    clear hr
    go_wp2
    go_ret
    exact .no (fun h => by have := HR.out.2 h.2.2.1; cases this) b3
   | true =>
    have HR := Lib.hid hr
    clear hr
    go_wp2_with fail
    refine (HE.out _ b3).mono ?_; rintro e w4 ⟨⟨r, rfl, hr⟩, hb4⟩
    have b4 := below_then b3 hb4 b3.size
    have HR4 := Lib.hid hr
    clear hr z3 u3 LA3 LB3 hb4 b3
    go_wp2
    go_ret
    exact ⟨⟨r, rfl, HR4.out.trans ⟨fun h => ⟨HN.out, HM.out, HR.out.1 (by simp), h⟩, fun h => h.2.2.2⟩⟩, b4⟩
  ·have t2 : (m1 == m2) = false := by simpa using hm
   have HM := Lib.hid hm
   clear hn hm
   go_enter Tryz.func13, Tryz.ntmps13
   go_wp2
   go_ret
   exact .no (fun h => HM.out h.2.1) b2
 ·have t1 : (n1 == n2) = false := by simpa using hn
  have HM := Lib.hid hn
  clear hn
  go_enter Tryz.func13, Tryz.ntmps13
  go_wp2
  go_ret
  exact .no (fun h => HM.out h.1) b2
end Go.Proofs.YtnieminnnkbneaaGreat
