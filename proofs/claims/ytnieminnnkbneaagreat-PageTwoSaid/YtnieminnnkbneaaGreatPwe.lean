/- Walks of page.Writer: entry, proc. -/
import Derived.Test.YtnieminnnkbneaaGreatPwq
import Derived.Test.YtnieminnnkbneaaGreatRdg
namespace Go.Proofs.YtnieminnnkbneaaGreat
open Go.RowKit

theorem WSt.keep {w W V : World} {p : Nat} {x x' : PW} {ys : Bs} {A : Option Addr} {n c : Nat} (hn : n = ys.length) (L : Loc W p (x.cells (.slice A n c)) 56) (o : W.ownsRow w.heap.size 5 1 (.slice A n c) n (cellsB ys)) (K : Keep w.heap.size (· = p) w W)
    (LV : Loc V p (x'.cells (.slice A n c)) 56) (KV : Keep W.heap.size (· = p) W V) : WSt w V p x' ys :=
  ⟨A, n, c, hn, LV, owns_keep o KV (Nat.le_refl _) (fun k hk e => owns_ne o L (by decide) (e ▸ hk)), K.step KV K.size (fun _ _ h => h)⟩

/-- What entry answers. -/
def EntPost (w : World) (p : Nat) (x : PW) (y : Ent) (ys : Bs) (e : Ending) (w' : World) : Prop := e = .returned (.int .i64 (pwEntE x y)) ∧ WSt w w' p (if pwEntE x y = 0 then pwEnt x y else x) ys
theorem EntPost.no {w w' : World} {p : Nat} {x : PW} {y : Ent} {ys : Bs} {E : Int} (h : pwEntE x y = E) (hE : E ≠ 0) (hs : WSt w w' p x ys) : EntPost w p x y ys (.returned (.int .i64 E)) w' := by
  refine ⟨by rw [h], ?_⟩
  rw [if_neg (by rw [h]; exact hE)]
  exact hs
theorem EntPost.yes {w w' : World} {p : Nat} {x : PW} {y : Ent} {ys : Bs} (h : pwEntE x y = 0) (hs : WSt w w' p (pwEnt x y) ys) : EntPost w p x y ys (.returned (.int .i64 0)) w' := by
  refine ⟨by rw [h], ?_⟩
  rw [if_pos h]
  exact hs

set_option maxHeartbeats 4000000 in
theorem pentry_any (p : Nat) (x : PW) (ys : Bs) (y : Ent) (w W : World) (h : WSt w W p x ys) (hen : x.entries ≤ 281474976710655) :
    Calls Tryz.prog 36 #[.pointer (some ⟨p, 0, none⟩), .agg y.cells] W (EntPost w p x y ys) := by
  obtain ⟨A, n, c, hn, L, o, K⟩ := h
  have HN := Lib.hid hn
  have HO := Lib.hid o
  have HK := Lib.hid K
  have HL := Lib.hid L
  have hp := L.lt
  obtain ⟨live, number, mark, fr, pr, en, name, key⟩ := x
  obtain ⟨yk, ⟨vk, vn, vt⟩⟩ := y
  unfold Ent.cells
  simp only at hen ⊢
  have L1 := L.alloc (.cells #[.string yk, .int .i64 vk, .int .i64 vn, .string vt] 62)
  have b1 := (Below.refl W.heap.size W).alloc (Nat.le_refl _) (.cells #[.string yk, .int .i64 vk, .int .i64 vn, .string vt] 62)
  have Lb := Loc.new W #[.string yk, .int .i64 vk, .int .i64 vn, .string vt] 62
  have hE' : pwEntE ⟨live, number, mark, fr, pr, en, name, key⟩ ⟨yk, ⟨vk, vn, vt⟩⟩ = pwEntE ⟨live, number, mark, fr, pr, en, name, key⟩ ⟨yk, ⟨vk, vn, vt⟩⟩ := rfl
  conv at hE' => rhs; unfold pwEntE
  simp only at hE'
  have HE := Lib.hid hE'
  have hfin : Hid (∀ V, Below W.heap.size W V → WSt w V p ⟨live, number, mark, fr, pr, en, name, key⟩ ys) := Lib.hid (fun V hb =>
    WSt.keep HN.out HL.out HO.out HK.out (HL.out.below hb hp) (Keep.of_below hb _))
  clear hn L o K hE'
  have hck := fun V => dcheck_any ⟨vk, vn, vt⟩ V
  unfold valCells at hck
  simp only at hck
  have HCK := Lib.hid hck
  clear hck
  by_cases hkk : isKey yk = false
  · have hE := HE.out
    rw [if_pos hkk] at hE
    have HE2 := Lib.hid hE
    have HKK := Lib.hid hkk
    clear hE HE hkk L1 Lb
    go_enter Tryz.func36, Tryz.ntmps36
    go_wp2_with (go_at_call 76; refine (disKey_is yk false HKK.out _).mono ?_; rintro e w9 ⟨rfl, rfl⟩)
    go_ret
    exact .no HE2.out (by decide) (hfin.out _ b1)
  have hkk : isKey yk = true := by simpa using hkk
  have hE := HE.out
  rw [if_neg (by simp [hkk])] at hE
  have HE2 := Lib.hid hE
  have HKK := Lib.hid hkk
  obtain ⟨D, hD⟩ : ∃ D, D = datumCheck ⟨vk, vn, vt⟩ := ⟨_, rfl⟩
  rw [← hD] at HCK HE2
  clear hE HE hkk hD
  by_cases hD0 : D = 0
  · subst hD0
    have hE := HE2.out
    rw [if_neg (by simp)] at hE
    have HE3 := Lib.hid hE
    clear hE HE2
    by_cases hvk : vk = 0
    · have hE := HE3.out
      rw [if_pos hvk] at hE
      have HE4 := Lib.hid hE
      have t2 : (vk == 0) = true := by simp [hvk]
      clear hE HE3 hvk
      go_enter Tryz.func36, Tryz.ntmps36
      go_wp2_with (first | (go_at_call 76; refine (disKey_is yk true HKK.out _).mono ?_; rintro e w9 ⟨rfl, rfl⟩) | (go_at_call 77; refine (HCK.out _).mono ?_; rintro e w3 ⟨rfl, b3⟩; have Lb3 := Lb.below b3 Lb.lt; have L3 := L1.below b3 L1.lt; have z0 := Lb3.cell 0; have z1 := Lb3.cell 1; simp only [List.getElem?_toArray, List.getElem?_cons_zero, List.getElem?_cons_succ] at z0 z1))
      go_ret
      exact .no HE4.out (by decide) (hfin.out _ (below_then b1 b3 b1.size))
    · have hE := HE3.out
      rw [if_neg hvk] at hE
      have HE4 := Lib.hid hE
      have t2 : (vk == 0) = false := by simpa using hvk
      clear hE HE3 hvk
      have hl : (leS yk key = true ∧ Hid (pwEntE ⟨live, number, mark, fr, pr, en, name, key⟩ ⟨yk, ⟨vk, vn, vt⟩⟩ = 25)) ∨ (leS yk key = false ∧ Hid (pwEntE ⟨live, number, mark, fr, pr, en, name, key⟩ ⟨yk, ⟨vk, vn, vt⟩⟩ = 0)) := by
        cases h : leS yk key with
        | true => exact .inl ⟨rfl, Lib.hid (by rw [HE4.out, if_pos h])⟩
        | false => exact .inr ⟨rfl, Lib.hid (by rw [HE4.out, if_neg (by simp [h])])⟩
      clear HE4
      go_enter Tryz.func36, Tryz.ntmps36
      go_upto_region 8 with (first | (go_at_call 76; refine (disKey_is yk true HKK.out _).mono ?_; rintro e w9 ⟨rfl, rfl⟩) | (go_at_call 77; refine (HCK.out _).mono ?_; rintro e w3 ⟨rfl, b3⟩; have Lb3 := Lb.below b3 Lb.lt; have L3 := L1.below b3 L1.lt; have z0 := Lb3.cell 0; have z1 := Lb3.cell 1; simp only [List.getElem?_toArray, List.getElem?_cons_zero, List.getElem?_cons_succ] at z0 z1))
      have k7 := L3.cell 7
      have k5 := L3.cell 5
      simp only [PW.cells, List.getElem?_toArray, List.getElem?_cons_zero, List.getElem?_cons_succ] at k7 k5
      have f7 := L3.free 7
      have f5 := L3.free 5
      have hb3 := below_then b1 b3 b1.size
      rcases hl with ⟨hl, HE5⟩ | ⟨hl, HE5⟩
      · unfold leS at hl
        go_quiet (fail)
        go_wp2
        go_ret
        exact .no HE5.out (by decide) (hfin.out _ (below_drewN hb3 _))
      · unfold leS at hl
        go_quiet (fail)
        go_wp2
        go_ret
        refine .yes HE5.out ?_
        have LV := ((L3.drewN nq).set 7 (.string yk)).set 5 (.int .i64 (en + 1 : Nat))
        refine WSt.keep HN.out HL.out HO.out HK.out (x' := pwEnt ⟨live, number, mark, fr, pr, en, name, key⟩ ⟨yk, ⟨vk, vn, vt⟩⟩) LV ?_
        exact ((Keep.of_below (below_drewN hb3 nq) (· = p)).setCell (p := ⟨p, 7, none⟩) (.inr rfl) _).setCell (p := ⟨p, 5, none⟩) (.inr rfl) _
  · have hE := HE2.out
    rw [if_pos hD0] at hE
    have HE3 := Lib.hid hE
    have HD0 := Lib.hid hD0
    have t1 : (D != 0) = true := by simpa using hD0
    clear hE HE2 hD0
    go_enter Tryz.func36, Tryz.ntmps36
    go_wp2_with (first | (go_at_call 76; refine (disKey_is yk true HKK.out _).mono ?_; rintro e w9 ⟨rfl, rfl⟩) | (go_at_call 77; refine (HCK.out _).mono ?_; rintro e w3 ⟨rfl, b3⟩))
    go_ret
    exact .no HE3.out HD0.out (hfin.out _ (below_then b1 b3 b1.size))
/-- What proc answers. -/
def ProcPost (w : World) (p : Nat) (x : PW) (y : Prc) (ys : Bs) (e : Ending) (w' : World) : Prop := e = .returned (.int .i64 (pwProcE x y)) ∧ WSt w w' p (if pwProcE x y = 0 then pwProc x y else x) (if pwProcE x y = 0 then ys ++ procFrame x y else ys)
theorem ProcPost.no {w w' : World} {p : Nat} {x : PW} {y : Prc} {ys : Bs} {E : Int} (h : pwProcE x y = E) (hE : E ≠ 0) (hs : WSt w w' p x ys) : ProcPost w p x y ys (.returned (.int .i64 E)) w' := by
  refine ⟨by rw [h], ?_⟩
  rw [if_neg (by rw [h]; exact hE), if_neg (by rw [h]; exact hE)]
  exact hs
theorem ProcPost.yes {w w' : World} {p : Nat} {x : PW} {y : Prc} {ys : Bs} (h : pwProcE x y = 0) (hs : WSt w w' p (pwProc x y) (ys ++ procFrame x y)) : ProcPost w p x y ys (.returned (.int .i64 0)) w' := by
  refine ⟨by rw [h], ?_⟩
  rw [if_pos h, if_pos h]
  exact hs

theorem procEncode_ok {p : Prc} (h : (procCheck p).2 = 0) : procEncode p = (procBytes p, 0) := by
  unfold procEncode
  rw [if_pos h]

theorem procBytes_le' {p : Prc} (h : (procCheck p).2 = 0) : (procBytes p).length ≤ 26000 := by
  obtain ⟨h1, _, h3, h4⟩ := procCheck_zero h
  have hn := isName_le h1
  have e1 := encText_le p.name.data.toList
  have e2 := encNumber_le p.args
  have e3 := encNumber_le (p.code.length : Int)
  have e4 := codeBytes_le (l := p.code) (fun x hx => by
    obtain ⟨j, hj, rfl⟩ := List.getElem_of_mem hx
    exact (insCheck_zero (h4 j hj)).2.2)
  have e5 : p.name.data.toList.length = p.name.size := size_data p.name
  unfold procBytes
  simp only [List.length_append]
  omega

set_option maxHeartbeats 4000000 in
theorem pproc_any (p : Nat) (x : PW) (ys : Bs) (y : PrcC) (w W : World) (h : WSt w W p x ys) (hf : x.frames ≤ 281474976710654) (hpr : x.procs ≤ 281474976710655) (hlen : ys.length ≤ 70000000) (hr : Row W y.A (codeCells y.p.code)) (hcl : y.p.code.length ≤ 140737488355328) (hin : y.p.inR) :
    Calls Tryz.prog 35 #[.pointer (some ⟨p, 0, none⟩), .agg y.cells] W (ProcPost w p x y.p ys) := by
  obtain ⟨A, n, c, hn, L, o, K⟩ := h
  have HN := Lib.hid hn
  have HO := Lib.hid o
  have HK := Lib.hid K
  have HL := Lib.hid L
  have hp := L.lt
  obtain ⟨live, number, mark, fr, pr, en, name, key⟩ := x
  obtain ⟨⟨yn, ya, yc⟩, B, cB⟩ := y
  unfold PrcC.cells procCells
  simp only at hf hpr hr hcl hin ⊢
  have HR := Lib.hid hr
  have HIN := Lib.hid hin
  have hE' : pwProcE ⟨live, number, mark, fr, pr, en, name, key⟩ ⟨yn, ya, yc⟩ = pwProcE ⟨live, number, mark, fr, pr, en, name, key⟩ ⟨yn, ya, yc⟩ := rfl
  conv at hE' => rhs; unfold pwProcE
  simp only at hE'
  have HE := Lib.hid hE'
  have hfin : Hid (∀ V, Below W.heap.size W V → WSt w V p ⟨live, number, mark, fr, pr, en, name, key⟩ ys) := Lib.hid (fun V hb =>
    WSt.keep HN.out HL.out HO.out HK.out (HL.out.below hb hp) (Keep.of_below hb _))
  obtain ⟨C, hC⟩ : ∃ C, C = procCheck ⟨yn, ya, yc⟩ := ⟨_, rfl⟩
  obtain ⟨c1, c2⟩ := C
  obtain ⟨nc, hnc⟩ : ∃ nc, nc = yc.length := ⟨_, rfl⟩
  have hck := fun V (hb : Below W.heap.size W V) => pcheck_any ⟨yn, ya, yc⟩ B cB V (HR.out.of_below hb (Nat.le_refl _)) hcl HIN.out
  have hec := fun V (hb : Below W.heap.size W V) => pencode_any ⟨yn, ya, yc⟩ B cB V (HR.out.of_below hb (Nat.le_refl _)) hcl HIN.out
  rw [← hC] at hck HE
  unfold procCells at hck hec
  simp only at hck hec HE
  rw [← hnc] at hck hec ⊢
  have HCK := Lib.hid hck
  have HC := Lib.hid hC
  have L1 := L.alloc (.cells #[.string yn, .int .i64 ya, .slice B nc cB] 54)
  have b1 := (Below.refl W.heap.size W).alloc (Nat.le_refl _) (.cells #[.string yn, .int .i64 ya, .slice B nc cB] 54)
  have Lb := Loc.new W #[.string yn, .int .i64 ya, .slice B nc cB] 54
  clear hn L o K hE' hr hin hck hC hnc hcl
  by_cases hc2 : c2 = 0
  · subst hc2
    have hE := HE.out
    rw [if_neg (by simp)] at hE
    have HE2 := Lib.hid hE
    clear hE HE
    have hok : (procCheck ⟨yn, ya, yc⟩).2 = 0 := by rw [← HC.out]
    rw [procEncode_ok hok] at hec
    simp only at hec
    have hbl := procBytes_le' hok
    obtain ⟨zs, hzs⟩ : ∃ zs, zs = procBytes ⟨yn, ya, yc⟩ := ⟨_, rfl⟩
    rw [← hzs] at hec hbl
    obtain ⟨zl, hzl⟩ : ∃ zl, zl = zs.length := ⟨_, rfl⟩
    rw [← hzl] at hec hbl
    have HEC := Lib.hid hec
    have HZS := Lib.hid hzs
    have HZL := Lib.hid hzl
    clear hec hok hzs hzl
    go_enter Tryz.func35, Tryz.ntmps35
    go_upto_region 4 with (go_at_call 73; refine (HCK.out _ b1).mono ?_; rintro e w3 ⟨rfl, b3⟩)
    have L3 := L1.below b3 L1.lt
    have Lb3 := Lb.below b3 Lb.lt
    have hb3 := below_then b1 b3 b1.size
    have k5 := L3.cell 5; have k6 := L3.cell 6
    have z0 := Lb3.cell 0
    simp only [PW.cells, List.getElem?_toArray, List.getElem?_cons_zero, List.getElem?_cons_succ] at k5 k6 z0
    clear L1 Lb b1 b3
    by_cases hen : 0 < en
    · have hE := HE2.out
      rw [if_pos hen] at hE
      have HE3 := Lib.hid hE
      have t0 : (0 : Int) < (en : Int) := by omega
      clear hE HE2
      go_quiet (fail)
      go_wp2
      go_ret
      exact .no HE3.out (by decide) (hfin.out _ (below_drewN hb3 _))
    have hE := HE2.out
    rw [if_neg hen] at hE
    obtain rfl : en = 0 := by omega
    rw [show ((0 : Nat) : Int) = 0 from rfl] at k5
    cases hl : leS yn name with
    | true =>
      rw [if_pos hl] at hE
      have HE3 := Lib.hid hE
      unfold leS at hl
      clear hE HE2 hen
      go_quiet (fail)
      go_wp2
      go_ret
      exact .no HE3.out (by decide) (hfin.out _ (below_drewN hb3 _))
    | false =>
      rw [if_neg (by simp [hl])] at hE
      have HE3 := Lib.hid hE
      unfold leS at hl
      clear hE HE2 hen
      go_quiet (fail)
      have hbV := below_drewN hb3 nq
      have LV := L3.drewN nq
      have LbV := Lb3.drewN nq
      obtain ⟨V, hV⟩ : ∃ V, V = w3.drewN nq := ⟨_, rfl⟩
      rw [← hV] at hbV LV LbV ⊢
      clear hV k5 k6 z0 hl L3 Lb3 hb3
      have z0 := LbV.cell 0; have z1 := LbV.cell 1; have z2 := LbV.cell 2
      simp only [List.getElem?_toArray, List.getElem?_cons_zero, List.getElem?_cons_succ] at z0 z1 z2
      go_upto_region 7 with (go_at_call 74; refine (HEC.out _ hbV).mono ?_; rintro e w5 ⟨A5, c5, rfl, own5, b5⟩)
      have hbV5 := below_then hbV b5 hbV.size
      have L5 := (LV.below b5 LV.lt).alloc (.cells #[.slice A5 zl c5] 33)
      have Lb5 := (LbV.below b5 LbV.lt).alloc (.cells #[.slice A5 zl c5] 33)
      have b6 := hbV5.alloc hbV5.size (.cells #[.slice A5 zl c5] 33)
      have hb56 := (Below.refl w5.heap.size w5).alloc (Nat.le_refl _) (.cells #[.slice A5 zl c5] 33)
      have own6 := owns_mono' own5 hb56
      have C6 := (Loc.new w5 #[.slice A5 zl c5] 33).cell 0
      simp only [List.getElem?_toArray, List.getElem?_cons_zero] at C6
      have o6 : (w5.alloc (.cells #[.slice A5 zl c5] 33)).ownsRow w.heap.size 5 1 (.slice A n c) n (cellsB ys) := owns_mono' HO.out b6
      have K6 := HK.out.step (Keep.of_below b6 (· = p)) HK.out.size (fun _ _ h => h)
      obtain ⟨w6, hw6⟩ : ∃ w6, w6 = w5.alloc (.cells #[.slice A5 zl c5] 33) := ⟨_, rfl⟩
      rw [← hw6] at L5 Lb5 b6 own6 C6 o6 K6 ⊢
      have hpl := encNumber_le (fr : Int)
      have htl := encText_le zs
      have hM := more_proc w5.heap.size zs A5 zl c5 HZL.out (owns_none own6) w6 ((2 : UInt8) :: encNumber fr) (by simp; have := HZL.out; omega) C6 (Row.of_owns own6)
      have hF := frame_proc p ⟨live, number, mark, fr, pr, 0, name, key⟩ 2 w5.heap.size (encText zs) ys A n c w.heap.size w6 L5 o6 hM (by show fr ≤ _; omega) (by have := HZL.out; omega) (by have := HN.out; omega)
      rw [show (((2 : UInt8).toNat : Nat) : Int) = 2 from rfl] at hF
      have HFR := Lib.hid hF
      have HL5 := Lib.hid Lb5
      have HK6 := Lib.hid K6
      have hpne : W.heap.size ≠ p := by omega
      clear hw6 hM hF hpl htl own5 own6 C6 o6 L5 Lb5 K6 b5 hbV5 hb56 hbV LV LbV z0 z1 z2 b6
      go_upto_region 8 with (go_at_call 37; refine HFR.out.mono ?_; rintro e w7 ⟨rfl, hfr⟩)
      have h7 := hfr.st HK6.out
      have Lb7 : Loc w7 W.heap.size #[.string yn, .int .i64 ya, .slice B nc cB] 54 := by
        obtain ⟨_, _, _, _, _, _, K⟩ := hfr
        exact HL5.out.keep K HL5.out.lt hpne
      obtain ⟨A7, n7, c7, hn7, L7, o7, K7⟩ := h7
      have HN7 := Lib.hid hn7
      have HO7 := Lib.hid o7
      have HK7 := Lib.hid K7
      have z0 := Lb7.cell 0
      have k4 := L7.cell 4; have k6 := L7.cell 6
      simp only [PW.cells, List.getElem?_toArray, List.getElem?_cons_zero, List.getElem?_cons_succ] at z0 k4 k6
      have f4 := L7.free 4; have f6 := L7.free 6
      have LV := (L7.set 6 (.string yn)).set 4 (.int .i64 (pr + 1 : Nat))
      have HLV := Lib.hid LV
      have HL7 := Lib.hid L7
      clear hfr hn7 o7 K7 L7 Lb7 LV HFR
      go_wp2
      go_ret
      refine .yes HE3.out ?_
      have hs := WSt.keep HN7.out HL7.out HO7.out HK7.out (x' := pwProc ⟨live, number, mark, fr, pr, 0, name, key⟩ ⟨yn, ya, yc⟩) HLV.out (((Keep.refl w7.heap.size (· = p) w7).setCell (p := ⟨p, 6, none⟩) (.inr rfl) _).setCell (p := ⟨p, 4, none⟩) (.inr rfl) _)
      unfold procFrame
      rw [← HZS.out]
      exact hs
  · have hE := HE.out
    rw [if_pos hc2] at hE
    have HE2 := Lib.hid hE
    have HC2 := Lib.hid hc2
    have t1 : (c2 != 0) = true := by simpa using hc2
    clear hE HE hc2 hec
    go_enter Tryz.func35, Tryz.ntmps35
    go_wp2_with (go_at_call 73; refine (HCK.out _ b1).mono ?_; rintro e w3 ⟨rfl, b3⟩)
    go_ret
    exact .no HE2.out HC2.out (hfin.out _ (below_then b1 b3 b1.size))
end Go.Proofs.YtnieminnnkbneaaGreat
