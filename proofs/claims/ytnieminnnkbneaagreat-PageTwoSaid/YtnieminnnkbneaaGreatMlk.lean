/- Walks of treadlelaw14: procs, entries, images. -/
import Derived.Test.YtnieminnnkbneaaGreatPwd
import Derived.Test.YtnieminnnkbneaaGreatRdr
import Derived.Test.YtnieminnnkbneaaGreatMlg
namespace Go.Proofs.YtnieminnnkbneaaGreat
open Go.RowKit

def kE : Ent := ⟨⟨#[97]⟩, ⟨1, 1, ⟨#[]⟩⟩⟩
def kQ : (Bs × PW) × Int := pwPage (PW.new 1 7) [] [kE]
def kX : PW := ⟨true, 1, 7, 2, 0, 1, emptyB, ⟨#[97]⟩⟩
def kB : Bs := kQ.1.1
def kZ : Bs := (pwEndQ kX).1.1
def kS : RS := ⟨3, 1, 7, [], [kE], emptyB, ⟨#[97]⟩⟩
theorem kQ_eq : kQ = ((kB, kX), 0) := by
  have h1 : kQ.2 = 0 := by kernel_rfl
  have h2 : kQ.1.2 = kX := by kernel_rfl
  rw [← h1, ← h2]
  rfl
theorem kEnd_eq : pwEndQ kX = ((kZ, PW.zero), 0) := by
  have h1 : (pwEndQ kX).2 = 0 := by kernel_rfl
  have h2 : (pwEndQ kX).1.2 = PW.zero := by kernel_rfl
  rw [← h1, ← h2]
  rfl
theorem kRead : pageRead (kB ++ kZ) = (kS, 0) := by kernel_rfl
theorem kNone : pageRead [] = (.zero, 2) := by kernel_rfl
theorem kB_len : kB.length = 28 := by kernel_rfl
theorem kZ_len : kZ.length = 12 := by kernel_rfl
theorem owns_capA {w : World} {base : Nat} {e : TypeId} {size n c : Nat} {A : Option Addr} {xs : List Value} (ho : w.ownsRow base e size (.slice A n c) n xs) : n ≤ c := by
  rcases ho.2 with ⟨h, _⟩ | ⟨g, c1, cur, h, _, _, h1, _⟩
  · simp only [Value.slice.injEq] at h
    omega
  · simp only [Value.slice.injEq] at h
    obtain ⟨_, _, rfl⟩ := h
    exact h1

theorem Row.ents0 {w : World} {A : Option Addr} {y : Ent} (h : Row w A (entsCells [y])) : ∃ b off, A = some ⟨b, off, none⟩ ∧ w.cell? ⟨b, off, none⟩ = some (.string y.key) := by
  obtain ⟨b, off, hA, _, hc⟩ := h.ents (by simp)
  have h0 := hc 0 (by simp) 0 (by decide)
  simp only [Nat.zero_mul, Nat.add_zero] at h0
  exact ⟨b, off, hA, by rw [h0]; rfl⟩

set_option maxRecDepth 100000 in
set_option maxHeartbeats 4000000 in
theorem known_any (w : World) : Calls Tryz.prog 9 #[] w fun e w' => e = .returned (.bool true) ∧ Below w.heap.size w w' := by
  have hN := pnew_any 1 7 (by decide) (by decide) (by decide) w
  have LW := Loc.new w ((PW.new 1 7).cells nilS) 56
  have b1 := (Below.refl w.heap.size w).alloc (Nat.le_refl _) (.cells ((PW.new 1 7).cells nilS) 56)
  obtain ⟨w1, hw1⟩ : ∃ w1, w1 = w.alloc (.cells ((PW.new 1 7).cells nilS) 56) := ⟨_, rfl⟩
  rw [← hw1] at LW b1
  have hs1 : w1.heap.size = w.heap.size + 1 := by rw [hw1]; simp
  have hN1 : Calls Tryz.prog 7 #[.int .i64 1, .int .i64 7] w fun e w' => e = .returned (.tuple #[.pointer (some ⟨w.heap.size, 0, none⟩), .int .i64 0]) ∧ w' = w1 := by rw [hw1]; exact hN
  have HN := Lib.hid hN1
  have b2 := b1.alloc b1.size (.cells #[.string ⟨#[97]⟩, .int .i64 1, .int .i64 1, .string ⟨#[]⟩] 62)
  have L2 := LW.alloc (.cells #[.string ⟨#[97]⟩, .int .i64 1, .int .i64 1, .string ⟨#[]⟩] 62)
  have hP := ppage_any w.heap.size (PW.new 1 7) [] [kE] none (some ⟨w1.heap.size, 0, none⟩) 0 1 _ L2 (Row.nil _ _) (fun _ h => by cases h) (Row.of_loc (Loc.new w1 #[.string ⟨#[97]⟩, .int .i64 1, .int .i64 1, .string ⟨#[]⟩] 62)) (fun y hy => by
    rw [List.mem_singleton.1 hy]
    exact ⟨by simp [kE, i64R], by simp [kE, i64R]⟩) (by decide) (by decide) (by decide) (by decide) (by decide) (by decide) (by decide)
  rw [show pwPage (PW.new 1 7) (([] : List PrcC).map (·.p)) [kE] = ((kB, kX), 0) from kQ_eq] at hP
  have HP := Lib.hid hP
  have hs2 : (w1.alloc (.cells #[.string ⟨#[97]⟩, .int .i64 1, .int .i64 1, .string ⟨#[]⟩] 62)).heap.size = w.heap.size + 2 := by rw [World.size_alloc, hs1]
  have HS2 := Lib.hid hs2
  clear hN hw1 hN1 LW L2 hP hs2 hs1
  go_enter Tryz.func9, Tryz.ntmps9
  go_wp2_with (go_at_call 7; refine HN.out.mono ?_; rintro e w' ⟨rfl, rfl⟩)
  go_upto_region 5 with (go_at_call 15; refine HP.out.mono ?_; rintro e w3 ⟨A3, n3, c3, hn3, rfl, o3, L3, K3⟩; have HN3 : Hid (n3 = 28) := Lib.hid (by rw [hn3]; exact kB_len); clear hn3)
  have b3 := below_keep b2 K3 b2.size (fun k hk => by omega)
  have hpe := pend_any w.heap.size kX w3 L3 (by decide) (by decide) (by decide) (by decide) (by decide)
  rw [kEnd_eq] at hpe
  have HE := Lib.hid hpe
  have HO3 := Lib.hid o3
  have hb3 := b3.size
  clear hpe K3 b1 b2 HP HN
  go_upto_region 6 with (go_at_call 16; refine HE.out.mono ?_; rintro e w4 ⟨A4, n4, c4, hn4, rfl, o4, L4, K4⟩; have HN4 : Hid (n4 = 12) := Lib.hid (by rw [hn4]; exact kZ_len); clear hn4)
  have b4 := below_keep b3 K4 b3.size (fun k hk => by omega)
  have o3' := owns_keep HO3.out K4 (Nat.le_refl _) (fun k hk e => owns_ne HO3.out L3 (by decide) (e ▸ hk))
  have o3z := owns_base (base' := 0) o3' (fun _ _ => Nat.zero_le _)
  have hs4 := (Row.of_owns o4).src (P := Tryz.prog) (c := c4) (n := n4) (size := 1) Tryz.underlying33 (by rw [cellsB_length]; rw [HN4.out, kZ_len]) (cellsB_one _) (owns_none o4)
  have hl3 : n3 < 100 := by have := HN3.out; omega
  have hl4 : n4 < 100 := by have := HN4.out; omega
  have HB4 := Lib.hid b4
  have HO3' := Lib.hid o3'
  clear L3 L4 K4 b3 HE b4 o3'
  go_wp2_with (at_builtin; refine wpList_append_mine _ rfl _ _ 33 33 rfl 5 (.int .u8 0) 1 1 Tryz.underlying33 infoU8 rfl (by decide) (.slice A3 n3 c3) n3 (cellsB kB) rfl o3z (.slice A4 n4 c4) n4 (cellsB kZ) rfl hs4 (by unfold maxLen; omega) (by omega) ?_; intro A5 c5 w5 hown5 hg5 hb5 hx5)
  have hl5 : n3 + n4 = (kB ++ kZ).length := by rw [List.length_append, HN3.out, HN4.out, kB_len, kZ_len]
  have b5 := HB4.out.grown hg5 HB4.out.size (fun k hk => by have := (HO3'.out.lt k hk).1; have := HS2.out; omega)
  rw [← cellsB_append] at hown5
  have hrd := pread_any A5 (n3 + n4) c5 (kB ++ kZ) w5 (Row.of_owns hown5) hl5 (owns_capA hown5) (by omega)
  unfold RdPost at hrd
  rw [kRead] at hrd
  have hrd2 := hrd.mono (fun e w' h => (by
    obtain ⟨m, hm, he, I, hb⟩ := h
    have h1 := I.oe
    unfold RM.img at he
    simp only at hm
    rw [hm] at he h1
    exact ⟨m.P, m.pl.length, m.cp, m.E, m.ce, he, Row.of_owns h1, hb⟩ : ∃ P np cp E ce, e = .returned (.tuple #[.agg #[.int .i64 1, .int .i64 7, .slice P np cp, .slice E 1 ce], .int .i64 0]) ∧ Row w' E (entsCells [kE]) ∧ Below w5.heap.size w5 w'))
  have HRD := Lib.hid hrd2
  have HB5 := Lib.hid b5
  clear hrd hrd2 b5 hown5 hg5 hb5 hx5 hl5 o3z hs4 o3 o4
  go_upto_region 7 with (go_at_call 11; refine HRD.out.mono ?_; rintro e w6 ⟨P, np, cp, E, ce, rfl, hE, b6⟩)
  have L7 := Loc.new w6 #[.int .i64 1, .int .i64 7, .slice P np cp, .slice E 1 ce] 41
  have b7 := (below_then HB5.out b6 HB5.out.size).alloc (by have := b6.size; have := HB5.out.size; omega) (.cells #[.int .i64 1, .int .i64 7, .slice P np cp, .slice E 1 ce] 41)
  have hE7 := hE.alloc (.cells #[.int .i64 1, .int .i64 7, .slice P np cp, .slice E 1 ce] 41)
  obtain ⟨w7, hw7⟩ : ∃ w7, w7 = w6.alloc (.cells #[.int .i64 1, .int .i64 7, .slice P np cp, .slice E 1 ce] 41) := ⟨_, rfl⟩
  rw [← hw7] at L7 b7 hE7
  rw [← hw7]
  have hrn := pread_any none 0 0 [] w7 (Row.nil _ _) rfl (Nat.le_refl _) (by decide)
  unfold RdPost at hrn
  rw [kNone] at hrn
  unfold RM.img at hrn
  have HRN := Lib.hid hrn
  clear hw7 hrn hE b6
  go_upto_region 8 with (go_at_call 11; refine HRN.out.mono ?_; rintro e w8 ⟨m8, hm8, rfl, I8, b8⟩; have HM8 := Lib.hid hm8; clear hm8)
  have L8 := (L7.below b8 L7.lt).alloc (.cells #[.int .i64 m8.s.number, .int .i64 m8.s.mark, .slice m8.P m8.pl.length m8.cp, .slice m8.E m8.s.entries.length m8.ce] 41)
  obtain ⟨eb, eo, rfl, hc⟩ := ((hE7.of_below b8 (Nat.le_refl _)).alloc (.cells #[.int .i64 m8.s.number, .int .i64 m8.s.mark, .slice m8.P m8.pl.length m8.cp, .slice m8.E m8.s.entries.length m8.ce] 41)).ents0
  have y0 := L8.cell 0; have y1 := L8.cell 1; have y3 := L8.cell 3
  simp only [List.getElem?_toArray, List.getElem?_cons_zero, List.getElem?_cons_succ] at y0 y1 y3
  have hkk : kE.key = ⟨#[97]⟩ := rfl
  rw [hkk] at hc
  have hfin := (below_then b7 b8 b7.size).alloc (by have := b8.size; have := b7.size; omega) (.cells #[.int .i64 m8.s.number, .int .i64 m8.s.mark, .slice m8.P m8.pl.length m8.cp, .slice m8.E m8.s.entries.length m8.ce] 41)
  clear hkk L8 hE7 L7 b7 b8 I8
  go_wp2
  go_ret
  exact ⟨rfl, hfin⟩
end Go.Proofs.YtnieminnnkbneaaGreat

namespace Go.Proofs.YtnieminnnkbneaaGreat
open Go.RowKit

def Ent.eqv (x y : Ent) : Bool := x.key.toList == y.key.toList && x.v.eqv y.v
theorem Ent.eqv_iff (x y : Ent) : x.eqv y = true ↔ x = y := by
  obtain ⟨xk, xv⟩ := x
  obtain ⟨yk, yv⟩ := y
  simp [Ent.eqv, ba_eq, Val.eqv_iff]
theorem eqInEnt (d : Nat) (x y : Ent) (w : World) :
    (Op.equalIn (d + 3) 62 (.agg x.cells) (.agg y.cells)).run Tryz.prog w = .ok (x.eqv y) w := by
  obtain ⟨x0, ⟨x1, x2, x3⟩⟩ := x
  obtain ⟨y0, ⟨y1, y2, y3⟩⟩ := y
  unfold Ent.cells
  go_simp
  simp only [Ent.eqv, Val.eqv]
  by_cases h0 : x0.toList = y0.toList
  · by_cases h1 : x1 = y1
    · by_cases h2 : x2 = y2
      · by_cases h3 : x3.toList = y3.toList <;> simp [h0, h1, h2, h3]
      · simp [h0, h1, h2]
    · simp [h0, h1]
  · simp [h0]

/-- What a comparison answers. -/
def CmpP (P : Prop) (w : World) (e : Ending) (w' : World) : Prop := (∃ res, e = .returned (.bool res) ∧ (res = true ↔ P)) ∧ Below w.heap.size w w'
theorem CmpP.yes {P : Prop} {w w' : World} (h : P) (hb : Below w.heap.size w w') : CmpP P w (.returned (.bool true)) w' := ⟨⟨true, rfl, by simp [h]⟩, hb⟩
theorem CmpP.no {P : Prop} {w w' : World} (h : ¬ P) (hb : Below w.heap.size w w') : CmpP P w (.returned (.bool false)) w' := ⟨⟨false, rfl, by simp [h]⟩, hb⟩

set_option maxHeartbeats 4000000 in
theorem entries_any (xs ys : List Ent) (A B : Option Addr) (ca cb : Nat) (w : World) (ha : Row w A (entsCells xs)) (hb : Row w B (entsCells ys)) (hla : xs.length ≤ 140737488355328) (hlb : ys.length ≤ 140737488355328) :
    Calls Tryz.prog 33 #[.slice A xs.length ca, .slice B ys.length cb] w (CmpP (xs = ys) w) := by
  have HA := Lib.hid ha
  have HB := Lib.hid hb
  obtain ⟨N, hN⟩ : ∃ N, N = xs.length := ⟨_, rfl⟩
  obtain ⟨M, hM⟩ : ∃ M, M = ys.length := ⟨_, rfl⟩
  rw [← hN] at hla ⊢
  rw [← hM] at hlb ⊢
  have HN := Lib.hid hN
  have HM := Lib.hid hM
  clear ha hb hN hM
  by_cases h3 : N = M
  · subst h3
    go_enter Tryz.func33, Tryz.ntmps33
    go_wp2
    go_loopw [5] (fun i wr => ∃ k : Nat, k ≤ N ∧ i = .int .i64 k ∧ (∃ d, wr = w.drewN d) ∧ Hid (xs.take k = ys.take k)) (fun i _ => N - (intOf i).toNat)
    case atStart => exact ⟨0, Nat.zero_le _, rfl, ⟨0, rfl⟩, Lib.hid rfl⟩
    case round =>
      obtain ⟨wi, rfl⟩ : ∃ wi, wi = wr := ⟨_, rfl⟩
      obtain ⟨k, hk, rfl, ⟨d, rfl⟩, HTK⟩ := hrel
      by_cases hkn : k < N
      · have hkp : k < xs.length := by rw [← HN.out]; exact hkn
        have hkq : k < ys.length := by rw [← HM.out]; exact hkn
        obtain ⟨b, off, rfl, _, hc⟩ := HA.out.ents (by omega)
        obtain ⟨b', off', rfl, _, hc'⟩ := HB.out.ents (by omega)
        have hx1 : xs.take (k + 1) = xs.take k ++ [xs[k]] := List.take_succ_eq_append_getElem hkp
        have hy1 : ys.take (k + 1) = ys.take k ++ [ys[k]] := List.take_succ_eq_append_getElem hkq
        have hne : xs[k] ≠ ys[k] → xs ≠ ys := fun h e => h (by subst e; rfl)
        have hcx := hc k hkp
        have hcy := hc' k hkq
        generalize xs[k] = X at *
        generalize ys[k] = Y at *
        have hq := fun W => eqInEnt 9997 X Y W
        obtain ⟨res, hres⟩ : ∃ res, res = X.eqv Y := ⟨_, rfl⟩
        rw [← hres] at hq
        have hiff := Ent.eqv_iff X Y
        rw [← hres] at hiff
        obtain ⟨xk, xv⟩ := X
        obtain ⟨yk, yv⟩ := Y
        have x0 := hcx 0 (by decide); have x1 := hcx 1 (by decide); have x2 := hcx 2 (by decide); have x3 := hcx 3 (by decide)
        have y0 := hcy 0 (by decide); have y1 := hcy 1 (by decide); have y2 := hcy 2 (by decide); have y3 := hcy 3 (by decide)
        simp only [Ent.cells, List.getElem?_toArray, List.getElem?_cons_zero, List.getElem?_cons_succ, Nat.add_zero] at x0 x1 x2 x3 y0 y1 y2 y3 hq
        have hkn' : (k : Int) < (N : Int) := by omega
        have HX := Lib.hid hx1
        have HY := Lib.hid hy1
        have HNE := Lib.hid hne
        have HIFF := Lib.hid hiff
        clear hc hc' hx1 hy1 hne hcx hcy hiff hres
        have hq2 : ∀ W, (Op.equal 62 (.agg #[.string xk, .int .i64 xv.kind, .int .i64 xv.num, .string xv.text]) (.agg #[.string yk, .int .i64 yv.kind, .int .i64 yv.num, .string yv.text])).run Tryz.prog W = .ok res W := hq
        clear hq
        cases res with
        | true =>
          go_wp2
          refine wp_region_quiet_lit (by kernel_rfl) (by kernel_rfl) ?_
          repeat (quiet_step (fail))
          refine wpQuiet_step (fun K hK => ?_)
          rw [if_pos (by rfl)]
          refine quiet_neq _ _ _ _ rfl true _ _ rfl rfl hq2 (fun w => by kernel_rfl) ?_
          refine hK _ ?_
          clear hK K
          refine wpQuiet_nil ?_
          intro _ hw'
          obtain ⟨nq, hw''⟩ := hw'
          subst hw''
          simp only [Act.put, List.setIfInBounds_toArray, List.set_cons_zero, List.set_cons_succ, Bool.not_true]
          go_wp2
          go_roundw
          case rel => exact ⟨k + 1, by omega, by go_num, ⟨_, rfl⟩, Lib.hid (by rw [HX.out, HY.out, HTK.out, HIFF.out.1 (by simp)])⟩
          case measure => simp [intOf]; omega
        | false =>
          go_wp2
          refine wp_region_quiet_lit (by kernel_rfl) (by kernel_rfl) ?_
          repeat (quiet_step (fail))
          refine wpQuiet_step (fun K hK => ?_)
          rw [if_pos (by rfl)]
          refine quiet_neq _ _ _ _ rfl false _ _ rfl rfl hq2 (fun w => by kernel_rfl) ?_
          refine hK _ ?_
          clear hK K
          refine wpQuiet_nil ?_
          intro _ hw'
          obtain ⟨nq, hw''⟩ := hw'
          subst hw''
          simp only [Act.put, List.setIfInBounds_toArray, List.set_cons_zero, List.set_cons_succ, Bool.not_false]
          go_wp2
          go_ret
          exact .no (HNE.out (fun h => by have := HIFF.out.2 h; simp at this)) (below_drewN (below_drewN (Below.refl _ _) _) _)
      · obtain rfl : k = N := by omega
        go_wp2
        go_ret
        have h := HTK.out
        rw [List.take_of_length_le (by rw [← HN.out]; exact Nat.le_refl _), List.take_of_length_le (by rw [← HM.out]; exact Nat.le_refl _)] at h
        exact .yes h (below_drewN (Below.refl _ _) _)
  · have t1 : ((N : Int) != (M : Int)) = true := by simp; omega
    have HNE : Hid (¬ xs = ys) := Lib.hid (fun h => h3 (by rw [HN.out, HM.out, h]))
    clear h3
    go_enter Tryz.func33, Tryz.ntmps33
    go_wp2
    go_ret
    exact .no HNE.out (Below.refl _ _)

set_option maxHeartbeats 4000000 in
theorem procs_any (xs ys : List PrcC) (A B : Option Addr) (ca cb : Nat) (w : World) (ha : Row w A (prcsCells xs)) (hb : Row w B (prcsCells ys)) (hla : xs.length ≤ 140737488355328) (hlb : ys.length ≤ 140737488355328) (hxo : ∀ x ∈ xs, x.ok w) (hyo : ∀ y ∈ ys, y.ok w) :
    Calls Tryz.prog 32 #[.slice A xs.length ca, .slice B ys.length cb] w (CmpP (xs.map (·.p) = ys.map (·.p)) w) := by
  have HA := Lib.hid ha
  have HB := Lib.hid hb
  have HXO := Lib.hid hxo
  have HYO := Lib.hid hyo
  obtain ⟨N, hN⟩ : ∃ N, N = xs.length := ⟨_, rfl⟩
  obtain ⟨M, hM⟩ : ∃ M, M = ys.length := ⟨_, rfl⟩
  rw [← hN] at hla ⊢
  rw [← hM] at hlb ⊢
  have HN := Lib.hid hN
  have HM := Lib.hid hM
  clear ha hb hN hM hxo hyo
  by_cases h3 : N = M
  · subst h3
    go_enter Tryz.func32, Tryz.ntmps32
    go_wp2
    go_loopw [5] (fun i wr => ∃ k : Nat, k ≤ N ∧ i = .int .i64 k ∧ Below w.heap.size w wr ∧ Hid ((xs.map (·.p)).take k = (ys.map (·.p)).take k)) (fun i _ => N - (intOf i).toNat)
    case atStart => exact ⟨0, Nat.zero_le _, rfl, Below.refl _ _, Lib.hid rfl⟩
    case round =>
      obtain ⟨wi, rfl⟩ : ∃ wi, wi = wr := ⟨_, rfl⟩
      obtain ⟨k, hk, rfl, bI, HTK⟩ := hrel
      by_cases hkn : k < N
      · have hkp : k < xs.length := by rw [← HN.out]; exact hkn
        have hkq : k < ys.length := by rw [← HM.out]; exact hkn
        obtain ⟨b, off, rfl, hbl, hc⟩ := HA.out.prcs (by omega)
        obtain ⟨b', off', rfl, hbl', hc'⟩ := HB.out.prcs (by omega)
        have hx1 : (xs.map (·.p)).take (k + 1) = (xs.map (·.p)).take k ++ [(xs[k]).p] := by rw [List.take_succ_eq_append_getElem (by rw [List.length_map]; exact hkp), List.getElem_map]
        have hy1 : (ys.map (·.p)).take (k + 1) = (ys.map (·.p)).take k ++ [(ys[k]).p] := by rw [List.take_succ_eq_append_getElem (by rw [List.length_map]; exact hkq), List.getElem_map]
        have hne : (xs[k]).p ≠ (ys[k]).p → xs.map (·.p) ≠ ys.map (·.p) := fun h e => h (by
          have h1 : (xs.map (·.p))[k]? = some (xs[k]).p := by rw [List.getElem?_map, List.getElem?_eq_getElem hkp]; rfl
          have h2 : (ys.map (·.p))[k]? = some (ys[k]).p := by rw [List.getElem?_map, List.getElem?_eq_getElem hkq]; rfl
          rw [e, h2] at h1
          exact (Option.some.inj h1).symm)
        have hcx := hc k hkp
        have hcy := hc' k hkq
        have ox := HXO.out xs[k] (List.getElem_mem hkp)
        have oy := HYO.out ys[k] (List.getElem_mem hkq)
        generalize xs[k] = X at *
        generalize ys[k] = Y at *
        have hcall : ∀ W, Below w.heap.size w W → Calls Tryz.prog 71 #[.agg X.cells, .agg Y.cells] W fun e w' => (∃ res, e = .returned (.bool res) ∧ (res = true ↔ X.p = Y.p)) ∧ Below W.heap.size W w' := fun W hB =>
          refSame_any X.p Y.p X.A Y.A X.c Y.c W (ox.below hB).r (oy.below hB).r ox.l oy.l
        have x0 := hcx 0 (by decide); have x1 := hcx 1 (by decide); have x2 := hcx 2 (by decide)
        have y0 := hcy 0 (by decide); have y1 := hcy 1 (by decide); have y2 := hcy 2 (by decide)
        unfold PrcC.cells procCells at hcall
        simp only [PrcC.cells, procCells, List.getElem?_toArray, List.getElem?_cons_zero, List.getElem?_cons_succ, Nat.add_zero] at x0 x1 x2 y0 y1 y2
        have hkn' : (k : Int) < (N : Int) := by omega
        have hkI : (0 : Int) ≤ (k : Int) := by omega
        have HX := Lib.hid hx1
        have HY := Lib.hid hy1
        have HNE := Lib.hid hne
        have HCALL := Lib.hid hcall
        have HS : Hid (∀ W, Below w.heap.size w W → W.cell? ⟨b, off + k * 3, none⟩ = some (.string X.p.name) ∧ W.cell? ⟨b, off + k * 3 + 1, none⟩ = some (.int .i64 X.p.args) ∧ W.cell? ⟨b, off + k * 3 + 2, none⟩ = some (.slice X.A X.p.code.length X.c) ∧ W.cell? ⟨b', off' + k * 3, none⟩ = some (.string Y.p.name) ∧ W.cell? ⟨b', off' + k * 3 + 1, none⟩ = some (.int .i64 Y.p.args) ∧ W.cell? ⟨b', off' + k * 3 + 2, none⟩ = some (.slice Y.A Y.p.code.length Y.c)) := Lib.hid (fun W hB =>
          ⟨by rw [← x0]; exact hB.cell (p := ⟨b, off + k * 3, none⟩) hbl, by rw [← x1]; exact hB.cell (p := ⟨b, off + k * 3 + 1, none⟩) hbl, by rw [← x2]; exact hB.cell (p := ⟨b, off + k * 3 + 2, none⟩) hbl, by rw [← y0]; exact hB.cell (p := ⟨b', off' + k * 3, none⟩) hbl', by rw [← y1]; exact hB.cell (p := ⟨b', off' + k * 3 + 1, none⟩) hbl', by rw [← y2]; exact hB.cell (p := ⟨b', off' + k * 3 + 2, none⟩) hbl'⟩)
        have bId := below_then bI ((Below.refl wi.heap.size wi).drew) bI.size
        clear hc hc' hx1 hy1 hne hcx hcy ox oy hcall x0 x1 x2 y0 y1 y2
        go_upto_region 6 with (fail)
        go_region_held3 (fun W => W.cell? ⟨b, off + k * 3, none⟩ = some (.string X.p.name) ∧ W.cell? ⟨b, off + k * 3 + 1, none⟩ = some (.int .i64 X.p.args) ∧ W.cell? ⟨b, off + k * 3 + 2, none⟩ = some (.slice X.A X.p.code.length X.c) ∧ W.cell? ⟨b', off' + k * 3, none⟩ = some (.string Y.p.name) ∧ W.cell? ⟨b', off' + k * 3 + 1, none⟩ = some (.int .i64 Y.p.args) ∧ W.cell? ⟨b', off' + k * 3 + 2, none⟩ = some (.slice Y.A Y.p.code.length Y.c)) ((first | (with_reducible exact HS.out _ z4) | exact HS.out _ bId | exact HS.out _ bI)) ((go_at_call 71; refine (HCALL.out _ bId).mono ?_; rintro e w4 ⟨⟨res, rfl, hiff⟩, b4⟩; have z4 := below_then bId b4 bId.size; have HIFF := Lib.hid hiff; clear hiff))
        cases res with
        | true =>
          go_wp2
          go_roundw
          case rel => exact ⟨k + 1, by omega, by go_num, z4, Lib.hid (by rw [HX.out, HY.out, HTK.out, HIFF.out.1 rfl])⟩
          case measure => simp [intOf]; omega
        | false =>
          go_wp2
          go_ret
          exact .no (HNE.out (fun h => by have := HIFF.out.2 h; simp at this)) z4
      · obtain rfl : k = N := by omega
        go_wp2
        go_ret
        have h := HTK.out
        rw [List.take_of_length_le (by rw [List.length_map, ← HN.out]; exact Nat.le_refl _), List.take_of_length_le (by rw [List.length_map, ← HM.out]; exact Nat.le_refl _)] at h
        exact .yes h bI
  · have t1 : ((N : Int) != (M : Int)) = true := by simp; omega
    have HNE : Hid (¬ xs.map (·.p) = ys.map (·.p)) := Lib.hid (fun h => h3 (by rw [HN.out, HM.out]; have := congrArg List.length h; simpa using this))
    clear h3
    go_enter Tryz.func32, Tryz.ntmps32
    go_wp2
    go_ret
    exact .no HNE.out (Below.refl _ _)

set_option maxHeartbeats 4000000 in
theorem images_any (n1 m1 n2 m2 : Int) (xs ys : List PrcC) (es fs : List Ent) (A B C D : Option Addr) (ca cb cc cd : Nat) (w : World) (ha : Row w A (prcsCells xs)) (hb : Row w B (prcsCells ys)) (hc : Row w C (entsCells es)) (hd : Row w D (entsCells fs))
    (hla : xs.length ≤ 140737488355328) (hlb : ys.length ≤ 140737488355328) (hlc : es.length ≤ 140737488355328) (hld : fs.length ≤ 140737488355328) (hxo : ∀ x ∈ xs, x.ok w) (hyo : ∀ y ∈ ys, y.ok w) :
    Calls Tryz.prog 13 #[.agg #[.int .i64 n1, .int .i64 m1, .slice A xs.length ca, .slice C es.length cc], .agg #[.int .i64 n2, .int .i64 m2, .slice B ys.length cb, .slice D fs.length cd]] w (CmpP (n1 = n2 ∧ m1 = m2 ∧ xs.map (·.p) = ys.map (·.p) ∧ es = fs) w) := by
  have LA := Loc.new w #[.int .i64 n1, .int .i64 m1, .slice A xs.length ca, .slice C es.length cc] 41
  have LB := Loc.new (w.alloc (.cells #[.int .i64 n1, .int .i64 m1, .slice A xs.length ca, .slice C es.length cc] 41)) #[.int .i64 n2, .int .i64 m2, .slice B ys.length cb, .slice D fs.length cd] 41
  have LA2 := LA.alloc (.cells #[.int .i64 n2, .int .i64 m2, .slice B ys.length cb, .slice D fs.length cd] 41)
  simp only [World.size_alloc] at LB
  have b2 := (((Below.refl w.heap.size w).alloc (Nat.le_refl _) (.cells #[.int .i64 n1, .int .i64 m1, .slice A xs.length ca, .slice C es.length cc] 41)).alloc (by simp) (.cells #[.int .i64 n2, .int .i64 m2, .slice B ys.length cb, .slice D fs.length cd] 41))
  have x0 := LA2.cell 0; have x1 := LA2.cell 1; have x2 := LA2.cell 2; have x3 := LA2.cell 3
  have y0 := LB.cell 0; have y1 := LB.cell 1; have y2 := LB.cell 2; have y3 := LB.cell 3
  simp only [List.getElem?_toArray, List.getElem?_cons_zero, List.getElem?_cons_succ] at x0 x1 x2 x3 y0 y1 y2 y3
  by_cases hn : n1 = n2
  · have t1 : (n1 == n2) = true := by simpa using hn
    by_cases hm : m1 = m2
    · have t2 : (m1 == m2) = true := by simpa using hm
      have hp := fun W (h : Below w.heap.size w W) => procs_any xs ys A B ca cb W (ha.of_below h (Nat.le_refl _)) (hb.of_below h (Nat.le_refl _)) hla hlb (fun x hx => (hxo x hx).below h) (fun x hx => (hyo x hx).below h)
      have he := fun W (h : Below w.heap.size w W) => entries_any es fs C D cc cd W (hc.of_below h (Nat.le_refl _)) (hd.of_below h (Nat.le_refl _)) hlc hld
      generalize xs.length = N1 at *
      generalize ys.length = N2 at *
      generalize es.length = N3 at *
      generalize fs.length = N4 at *
      have HP := Lib.hid hp
      have HE := Lib.hid he
      have HN := Lib.hid hn
      have HM := Lib.hid hm
      clear hp he ha hb hc hd hxo hyo hn hm LA
      go_enter Tryz.func13, Tryz.ntmps13
      go_wp2_with fail
      refine (HP.out _ b2).mono ?_; rintro e w3 ⟨⟨r, rfl, hr⟩, hb3⟩
      have LA3 := LA2.below hb3 LA2.lt
      have LB3 := LB.below hb3 LB.lt
      have b3 := below_then b2 hb3 b2.size
      have z3 := LA3.cell 3; have u3 := LB3.cell 3
      simp only [List.getElem?_toArray, List.getElem?_cons_zero, List.getElem?_cons_succ] at z3 u3
      clear hb3 LA2 LB b2 x0 x1 x2 x3 y0 y1 y2 y3
      cases r with
      | false =>
        have HR := Lib.hid hr
        clear hr
        go_wp2
        go_ret
        exact .no (fun h => by have := HR.out.2 h.2.2.1; cases this) b3
      | true =>
        have HR := Lib.hid hr
        clear hr
        go_wp2_with fail
        refine (HE.out _ b3).mono ?_; rintro e w4 ⟨⟨r, rfl, hr⟩, hb4⟩
        have b4 := below_then b3 hb4 b3.size
        have HR4 := Lib.hid hr
        clear hr z3 u3 LA3 LB3 hb4 b3
        go_wp2
        go_ret
        exact ⟨⟨r, rfl, HR4.out.trans ⟨fun h => ⟨HN.out, HM.out, HR.out.1 (by simp), h⟩, fun h => h.2.2.2⟩⟩, b4⟩
    · have t2 : (m1 == m2) = false := by simpa using hm
      have HM := Lib.hid hm
      clear hn hm
      go_enter Tryz.func13, Tryz.ntmps13
      go_wp2
      go_ret
      exact .no (fun h => HM.out h.2.1) b2
  · have t1 : (n1 == n2) = false := by simpa using hn
    have HM := Lib.hid hn
    clear hn
    go_enter Tryz.func13, Tryz.ntmps13
    go_wp2
    go_ret
    exact .no (fun h => HM.out h.1) b2
end Go.Proofs.YtnieminnnkbneaaGreat
