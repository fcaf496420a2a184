/- Walks of page.Writer: End; a nil Writer. -/
import Derived.Test.YtnieminnnkbneaaGreatMl
import Derived.Test.YtnieminnnkbneaaGreatMn
import Derived.Test.YtnieminnnkbneaaGreatPgr
namespace Go.Proofs.YtnieminnnkbneaaGreat
open Go.RowKit

theorem WSt.keep {w W V : World} {p : Nat} {x x' : PW} {ys : Bs} {A : Option Addr} {n c : Nat} (hn : n = ys.length) (L : Loc W p (x.cells (.slice A n c)) 56) (o : W.ownsRow w.heap.size 5 1 (.slice A n c) n (cellsB ys)) (K : Keep w.heap.size (· = p) w W)
  (LV : Loc V p (x'.cells (.slice A n c)) 56) (KV : Keep W.heap.size (· = p) W V) : WSt w V p x' ys :=
 ⟨A, n, c, hn, LV, owns_keep o KV (Nat.le_refl _) (fun k hk e => owns_ne o L (by decide) (e ▸ hk)), K.step KV K.size (fun _ _ h => h)⟩

/-- What entry answers. -/
def EntPost (w : World) (p : Nat) (x : PW) (y : Ent) (ys : Bs) (e : Ending) (w' : World) : Prop := e = .returned (.int .i64 (pwEntE x y)) ∧ WSt w w' p (if pwEntE x y = 0 then pwEnt x y else x) ys
theorem EntPost.no {w w' : World} {p : Nat} {x : PW} {y : Ent} {ys : Bs} {E : Int} (h : pwEntE x y = E) (hE : E ≠ 0) (hs : WSt w w' p x ys) : EntPost w p x y ys (.returned (.int .i64 E)) w' := by
 refine ⟨by rw [h], ?_⟩
 rw [if_neg (by rw [h]; exact hE)]
 exact hs
theorem EntPost.yes {w w' : World} {p : Nat} {x : PW} {y : Ent} {ys : Bs} (h : pwEntE x y = 0) (hs : WSt w w' p (pwEnt x y) ys) : EntPost w p x y ys (.returned (.int .i64 0)) w' := by
 refine ⟨by rw [h], ?_⟩
 rw [if_pos h]
 exact hs

set_option maxHeartbeats 4000000 in
theorem pentry_any (p : Nat) (x : PW) (ys : Bs) (y : Ent) (w W : World) (h : WSt w W p x ys) (hen : x.entries ≤ 281474976710655) :
  Calls Tryz.prog 36 #[.pointer (some ⟨p, 0, none⟩), .agg y.cells] W (EntPost w p x y ys) := by
 obtain ⟨A, n, c, hn, L, o, K⟩ := h
 have HN := Lib.hid hn
 have HO := Lib.hid o
 have HK := Lib.hid K
 have HL := Lib.hid L
 have hp := L.lt
 obtain ⟨live, number, mark, fr, pr, en, name, key⟩ := x
 obtain ⟨yk, ⟨vk, vn, vt⟩⟩ := y
 unfold Ent.cells
 simp only at hen ⊢
 have L1 := L.alloc (.cells #[.string yk, .int .i64 vk, .int .i64 vn, .string vt] 62)
 have b1 := (Below.refl W.heap.size W).alloc (Nat.le_refl _) (.cells #[.string yk, .int .i64 vk, .int .i64 vn, .string vt] 62)
 have Lb := Loc.new W #[.string yk, .int .i64 vk, .int .i64 vn, .string vt] 62
 have hE' : pwEntE ⟨live, number, mark, fr, pr, en, name, key⟩ ⟨yk, ⟨vk, vn, vt⟩⟩ = pwEntE ⟨live, number, mark, fr, pr, en, name, key⟩ ⟨yk, ⟨vk, vn, vt⟩⟩ := rfl
 conv at hE' => rhs; unfold pwEntE
 simp only at hE'
 have HE := Lib.hid hE'
 have hfin : Hid (∀ V, Below W.heap.size W V → WSt w V p ⟨live, number, mark, fr, pr, en, name, key⟩ ys) := Lib.hid (fun V hb =>
  WSt.keep HN.out HL.out HO.out HK.out (HL.out.below hb hp) (Keep.of_below hb _))
 clear hn L o K hE'
 have hck := fun V => dcheck_any ⟨vk, vn, vt⟩ V
 unfold valCells at hck
 simp only at hck
 have HCK := Lib.hid hck
 clear hck
 by_cases hkk : isKey yk = false
 ·have hE := HE.out
  rw [if_pos hkk] at hE
  have HE2 := Lib.hid hE
  have HKK := Lib.hid hkk
  clear hE HE hkk L1 Lb
  go_enter Tryz.func36, Tryz.ntmps36
  go_wp2_with (go_at_call 76; refine (disKey_is yk false HKK.out _).mono ?_; rintro e w9 ⟨rfl, rfl⟩)
  go_ret
  exact .no HE2.out (by decide) (hfin.out _ b1)
 have hkk : isKey yk = true := by simpa using hkk
 have hE := HE.out
 rw [if_neg (by simp [hkk])] at hE
 have HE2 := Lib.hid hE
 have HKK := Lib.hid hkk
 obtain ⟨D, hD⟩ : ∃ D, D = datumCheck ⟨vk, vn, vt⟩ := ⟨_, rfl⟩
 rw [← hD] at HCK HE2
 clear hE HE hkk hD
 by_cases hD0 : D = 0
 ·subst hD0
  have hE := HE2.out
  rw [if_neg (by simp)] at hE
  have HE3 := Lib.hid hE
  clear hE HE2
  by_cases hvk : vk = 0
  ·have hE := HE3.out
   rw [if_pos hvk] at hE
   have HE4 := Lib.hid hE
   have t2 : (vk == 0) = true := by simp [hvk]
   clear hE HE3 hvk
   go_enter Tryz.func36, Tryz.ntmps36
   go_wp2_with (first | (go_at_call 76; refine (disKey_is yk true HKK.out _).mono ?_; rintro e w9 ⟨rfl, rfl⟩) | (go_at_call 77; refine (HCK.out _).mono ?_; rintro e w3 ⟨rfl, b3⟩; have Lb3 := Lb.below b3 Lb.lt; have L3 := L1.below b3 L1.lt; have z0 := Lb3.cell 0; have z1 := Lb3.cell 1; simp only [List.getElem?_toArray, List.getElem?_cons_zero, List.getElem?_cons_succ] at z0 z1))
   go_ret
   exact .no HE4.out (by decide) (hfin.out _ (below_then b1 b3 b1.size))
  ·have hE := HE3.out
   rw [if_neg hvk] at hE
   have HE4 := Lib.hid hE
   have t2 : (vk == 0) = false := by simpa using hvk
   clear hE HE3 hvk
   have hl : (leS yk key = true ∧ Hid (pwEntE ⟨live, number, mark, fr, pr, en, name, key⟩ ⟨yk, ⟨vk, vn, vt⟩⟩ = 25)) ∨ (leS yk key = false ∧ Hid (pwEntE ⟨live, number, mark, fr, pr, en, name, key⟩ ⟨yk, ⟨vk, vn, vt⟩⟩ = 0)) := by
    cases h : leS yk key with
    | true => exact .inl ⟨rfl, Lib.hid (by rw [HE4.out, if_pos h])⟩
    | false => exact .inr ⟨rfl, Lib.hid (by rw [HE4.out, if_neg (by simp [h])])⟩
   clear HE4
   go_enter Tryz.func36, Tryz.ntmps36
   go_upto_region 8 with (first | (go_at_call 76; refine (disKey_is yk true HKK.out _).mono ?_; rintro e w9 ⟨rfl, rfl⟩) | (go_at_call 77; refine (HCK.out _).mono ?_; rintro e w3 ⟨rfl, b3⟩; have Lb3 := Lb.below b3 Lb.lt; have L3 := L1.below b3 L1.lt; have z0 := Lb3.cell 0; have z1 := Lb3.cell 1; simp only [List.getElem?_toArray, List.getElem?_cons_zero, List.getElem?_cons_succ] at z0 z1))
   have k7 := L3.cell 7
   have k5 := L3.cell 5
   simp only [PW.cells, List.getElem?_toArray, List.getElem?_cons_zero, List.getElem?_cons_succ] at k7 k5
   have f7 := L3.free 7
   have f5 := L3.free 5
   have hb3 := below_then b1 b3 b1.size
   rcases hl with ⟨hl, HE5⟩ | ⟨hl, HE5⟩
   ·unfold leS at hl
    go_quiet (fail)
    go_wp2
    go_ret
    exact .no HE5.out (by decide) (hfin.out _ (below_drewN hb3 _))
   ·unfold leS at hl
    go_quiet (fail)
    go_wp2
    go_ret
    refine .yes HE5.out ?_
    have LV := ((L3.drewN nq).set 7 (.string yk)).set 5 (.int .i64 (en + 1 : Nat))
    refine WSt.keep HN.out HL.out HO.out HK.out (x' := pwEnt ⟨live, number, mark, fr, pr, en, name, key⟩ ⟨yk, ⟨vk, vn, vt⟩⟩) LV ?_
    exact ((Keep.of_below (below_drewN hb3 nq) (· = p)).setCell (p := ⟨p, 7, none⟩) (.inr rfl) _).setCell (p := ⟨p, 5, none⟩) (.inr rfl) _
 ·have hE := HE2.out
  rw [if_pos hD0] at hE
  have HE3 := Lib.hid hE
  have HD0 := Lib.hid hD0
  have t1 : (D != 0) = true := by simpa using hD0
  clear hE HE2 hD0
  go_enter Tryz.func36, Tryz.ntmps36
  go_wp2_with (first | (go_at_call 76; refine (disKey_is yk true HKK.out _).mono ?_; rintro e w9 ⟨rfl, rfl⟩) | (go_at_call 77; refine (HCK.out _).mono ?_; rintro e w3 ⟨rfl, b3⟩))
  go_ret
  exact .no HE3.out HD0.out (hfin.out _ (below_then b1 b3 b1.size))
/-- What proc answers. -/
def ProcPost (w : World) (p : Nat) (x : PW) (y : Prc) (ys : Bs) (e : Ending) (w' : World) : Prop := e = .returned (.int .i64 (pwProcE x y)) ∧ WSt w w' p (if pwProcE x y = 0 then pwProc x y else x) (if pwProcE x y = 0 then ys ++ procFrame x y else ys)
theorem ProcPost.no {w w' : World} {p : Nat} {x : PW} {y : Prc} {ys : Bs} {E : Int} (h : pwProcE x y = E) (hE : E ≠ 0) (hs : WSt w w' p x ys) : ProcPost w p x y ys (.returned (.int .i64 E)) w' := by
 refine ⟨by rw [h], ?_⟩
 rw [if_neg (by rw [h]; exact hE), if_neg (by rw [h]; exact hE)]
 exact hs
theorem ProcPost.yes {w w' : World} {p : Nat} {x : PW} {y : Prc} {ys : Bs} (h : pwProcE x y = 0) (hs : WSt w w' p (pwProc x y) (ys ++ procFrame x y)) : ProcPost w p x y ys (.returned (.int .i64 0)) w' := by
 refine ⟨by rw [h], ?_⟩
 rw [if_pos h, if_pos h]
 exact hs

theorem procEncode_ok {p : Prc} (h : (procCheck p).2 = 0) : procEncode p = (procBytes p, 0) := by
 unfold procEncode
 rw [if_pos h]

theorem procBytes_le' {p : Prc} (h : (procCheck p).2 = 0) : (procBytes p).length ≤ 26000 := by
 obtain ⟨h1, _, h3, h4⟩ := procCheck_zero h
 have hn := isName_le h1
 have e1 := encText_le p.name.data.toList
 have e2 := encNumber_le p.args
 have e3 := encNumber_le (p.code.length : Int)
 have e4 := codeBytes_le (l := p.code) (fun x hx => by
  obtain ⟨j, hj, rfl⟩ := List.getElem_of_mem hx
  exact (insCheck_zero (h4 j hj)).2.2)
 have e5 : p.name.data.toList.length = p.name.size := size_data p.name
 unfold procBytes
 simp only [List.length_append]
 omega

set_option maxHeartbeats 4000000 in
theorem pproc_any (p : Nat) (x : PW) (ys : Bs) (y : PrcC) (w W : World) (h : WSt w W p x ys) (hf : x.frames ≤ 281474976710654) (hpr : x.procs ≤ 281474976710655) (hlen : ys.length ≤ 70000000) (hr : Row W y.A (codeCells y.p.code)) (hcl : y.p.code.length ≤ 140737488355328) (hin : y.p.inR) :
  Calls Tryz.prog 35 #[.pointer (some ⟨p, 0, none⟩), .agg y.cells] W (ProcPost w p x y.p ys) := by
 obtain ⟨A, n, c, hn, L, o, K⟩ := h
 have HN := Lib.hid hn
 have HO := Lib.hid o
 have HK := Lib.hid K
 have HL := Lib.hid L
 have hp := L.lt
 obtain ⟨live, number, mark, fr, pr, en, name, key⟩ := x
 obtain ⟨⟨yn, ya, yc⟩, B, cB⟩ := y
 unfold PrcC.cells procCells
 simp only at hf hpr hr hcl hin ⊢
 have HR := Lib.hid hr
 have HIN := Lib.hid hin
 have hE' : pwProcE ⟨live, number, mark, fr, pr, en, name, key⟩ ⟨yn, ya, yc⟩ = pwProcE ⟨live, number, mark, fr, pr, en, name, key⟩ ⟨yn, ya, yc⟩ := rfl
 conv at hE' => rhs; unfold pwProcE
 simp only at hE'
 have HE := Lib.hid hE'
 have hfin : Hid (∀ V, Below W.heap.size W V → WSt w V p ⟨live, number, mark, fr, pr, en, name, key⟩ ys) := Lib.hid (fun V hb =>
  WSt.keep HN.out HL.out HO.out HK.out (HL.out.below hb hp) (Keep.of_below hb _))
 obtain ⟨C, hC⟩ : ∃ C, C = procCheck ⟨yn, ya, yc⟩ := ⟨_, rfl⟩
 obtain ⟨c1, c2⟩ := C
 obtain ⟨nc, hnc⟩ : ∃ nc, nc = yc.length := ⟨_, rfl⟩
 have hck := fun V (hb : Below W.heap.size W V) => pcheck_any ⟨yn, ya, yc⟩ B cB V (HR.out.of_below hb (Nat.le_refl _)) hcl HIN.out
 have hec := fun V (hb : Below W.heap.size W V) => pencode_any ⟨yn, ya, yc⟩ B cB V (HR.out.of_below hb (Nat.le_refl _)) hcl HIN.out
 rw [← hC] at hck HE
 unfold procCells at hck hec
 simp only at hck hec HE
 rw [← hnc] at hck hec ⊢
 have HCK := Lib.hid hck
 have HC := Lib.hid hC
 have L1 := L.alloc (.cells #[.string yn, .int .i64 ya, .slice B nc cB] 54)
 have b1 := (Below.refl W.heap.size W).alloc (Nat.le_refl _) (.cells #[.string yn, .int .i64 ya, .slice B nc cB] 54)
 have Lb := Loc.new W #[.string yn, .int .i64 ya, .slice B nc cB] 54
 clear hn L o K hE' hr hin hck hC hnc hcl
 by_cases hc2 : c2 = 0
 ·subst hc2
  have hE := HE.out
  rw [if_neg (by simp)] at hE
  have HE2 := Lib.hid hE
  clear hE HE
  have hok : (procCheck ⟨yn, ya, yc⟩).2 = 0 := by rw [← HC.out]
  rw [procEncode_ok hok] at hec
  simp only at hec
  have hbl := procBytes_le' hok
  obtain ⟨zs, hzs⟩ : ∃ zs, zs = procBytes ⟨yn, ya, yc⟩ := ⟨_, rfl⟩
  rw [← hzs] at hec hbl
  obtain ⟨zl, hzl⟩ : ∃ zl, zl = zs.length := ⟨_, rfl⟩
  rw [← hzl] at hec hbl
  have HEC := Lib.hid hec
  have HZS := Lib.hid hzs
  have HZL := Lib.hid hzl
  clear hec hok hzs hzl
  go_enter Tryz.func35, Tryz.ntmps35
  go_upto_region 4 with (go_at_call 73; refine (HCK.out _ b1).mono ?_; rintro e w3 ⟨rfl, b3⟩)
  have L3 := L1.below b3 L1.lt
  have Lb3 := Lb.below b3 Lb.lt
  have hb3 := below_then b1 b3 b1.size
  have k5 := L3.cell 5; have k6 := L3.cell 6
  have z0 := Lb3.cell 0
  simp only [PW.cells, List.getElem?_toArray, List.getElem?_cons_zero, List.getElem?_cons_succ] at k5 k6 z0
  clear L1 Lb b1 b3
  by_cases hen : 0 < en
  ·have hE := HE2.out
   rw [if_pos hen] at hE
   have HE3 := Lib.hid hE
   have t0 : (0 : Int) < (en : Int) := by omega
   clear hE HE2
   go_quiet (fail)
   go_wp2
   go_ret
   exact .no HE3.out (by decide) (hfin.out _ (below_drewN hb3 _))
  have hE := HE2.out
  rw [if_neg hen] at hE
  obtain rfl : en = 0 := by omega
  rw [show ((0 : Nat) : Int) = 0 from rfl] at k5
  cases hl : leS yn name with
  | true =>
   rw [if_pos hl] at hE
   have HE3 := Lib.hid hE
   unfold leS at hl
   clear hE HE2 hen
   go_quiet (fail)
   go_wp2
   go_ret
   exact .no HE3.out (by decide) (hfin.out _ (below_drewN hb3 _))
  | false =>
   rw [if_neg (by simp [hl])] at hE
   have HE3 := Lib.hid hE
   unfold leS at hl
   clear hE HE2 hen
   go_quiet (fail)
   have hbV := below_drewN hb3 nq
   have LV := L3.drewN nq
   have LbV := Lb3.drewN nq
   obtain ⟨V, hV⟩ : ∃ V, V = w3.drewN nq := ⟨_, rfl⟩
   rw [← hV] at hbV LV LbV ⊢
   clear hV k5 k6 z0 hl L3 Lb3 hb3
   have z0 := LbV.cell 0; have z1 := LbV.cell 1; have z2 := LbV.cell 2
   simp only [List.getElem?_toArray, List.getElem?_cons_zero, List.getElem?_cons_succ] at z0 z1 z2
   go_upto_region 7 with (go_at_call 74; refine (HEC.out _ hbV).mono ?_; rintro e w5 ⟨A5, c5, rfl, own5, b5⟩)
   have hbV5 := below_then hbV b5 hbV.size
   have L5 := (LV.below b5 LV.lt).alloc (.cells #[.slice A5 zl c5] 33)
   have Lb5 := (LbV.below b5 LbV.lt).alloc (.cells #[.slice A5 zl c5] 33)
   have b6 := hbV5.alloc hbV5.size (.cells #[.slice A5 zl c5] 33)
   have hb56 := (Below.refl w5.heap.size w5).alloc (Nat.le_refl _) (.cells #[.slice A5 zl c5] 33)
   have own6 := owns_mono' own5 hb56
   have C6 := (Loc.new w5 #[.slice A5 zl c5] 33).cell 0
   simp only [List.getElem?_toArray, List.getElem?_cons_zero] at C6
   have o6 : (w5.alloc (.cells #[.slice A5 zl c5] 33)).ownsRow w.heap.size 5 1 (.slice A n c) n (cellsB ys) := owns_mono' HO.out b6
   have K6 := HK.out.step (Keep.of_below b6 (· = p)) HK.out.size (fun _ _ h => h)
   obtain ⟨w6, hw6⟩ : ∃ w6, w6 = w5.alloc (.cells #[.slice A5 zl c5] 33) := ⟨_, rfl⟩
   rw [← hw6] at L5 Lb5 b6 own6 C6 o6 K6 ⊢
   have hpl := encNumber_le (fr : Int)
   have htl := encText_le zs
   have hM := more_proc w5.heap.size zs A5 zl c5 HZL.out (owns_none own6) w6 ((2 : UInt8) :: encNumber fr) (by simp; have := HZL.out; omega) C6 (Row.of_owns own6)
   have hF := frame_proc p ⟨live, number, mark, fr, pr, 0, name, key⟩ 2 w5.heap.size (encText zs) ys A n c w.heap.size w6 L5 o6 hM (by show fr ≤ _; omega) (by have := HZL.out; omega) (by have := HN.out; omega)
   rw [show (((2 : UInt8).toNat : Nat) : Int) = 2 from rfl] at hF
   have HFR := Lib.hid hF
   have HL5 := Lib.hid Lb5
   have HK6 := Lib.hid K6
   have hpne : W.heap.size ≠ p := by omega
   clear hw6 hM hF hpl htl own5 own6 C6 o6 L5 Lb5 K6 b5 hbV5 hb56 hbV LV LbV z0 z1 z2 b6
   go_upto_region 8 with (go_at_call 37; refine HFR.out.mono ?_; rintro e w7 ⟨rfl, hfr⟩)
   have h7 := hfr.st HK6.out
   have Lb7 : Loc w7 W.heap.size #[.string yn, .int .i64 ya, .slice B nc cB] 54 := by
    obtain ⟨_, _, _, _, _, _, K⟩ := hfr
    exact HL5.out.keep K HL5.out.lt hpne
   obtain ⟨A7, n7, c7, hn7, L7, o7, K7⟩ := h7
   have HN7 := Lib.hid hn7
   have HO7 := Lib.hid o7
   have HK7 := Lib.hid K7
   have z0 := Lb7.cell 0
   have k4 := L7.cell 4; have k6 := L7.cell 6
   simp only [PW.cells, List.getElem?_toArray, List.getElem?_cons_zero, List.getElem?_cons_succ] at z0 k4 k6
   have f4 := L7.free 4; have f6 := L7.free 6
   have LV := (L7.set 6 (.string yn)).set 4 (.int .i64 (pr + 1 : Nat))
   have HLV := Lib.hid LV
   have HL7 := Lib.hid L7
   clear hfr hn7 o7 K7 L7 Lb7 LV HFR
   go_wp2
   go_ret
   refine .yes HE3.out ?_
   have hs := WSt.keep HN7.out HL7.out HO7.out HK7.out (x' := pwProc ⟨live, number, mark, fr, pr, 0, name, key⟩ ⟨yn, ya, yc⟩) HLV.out (((Keep.refl w7.heap.size (· = p) w7).setCell (p := ⟨p, 6, none⟩) (.inr rfl) _).setCell (p := ⟨p, 4, none⟩) (.inr rfl) _)
   unfold procFrame
   rw [← HZS.out]
   exact hs
 ·have hE := HE.out
  rw [if_pos hc2] at hE
  have HE2 := Lib.hid hE
  have HC2 := Lib.hid hc2
  have t1 : (c2 != 0) = true := by simpa using hc2
  clear hE HE hc2 hec
  go_enter Tryz.func35, Tryz.ntmps35
  go_wp2_with (go_at_call 73; refine (HCK.out _ b1).mono ?_; rintro e w3 ⟨rfl, b3⟩)
  go_ret
  exact .no HE2.out HC2.out (hfin.out _ (below_then b1 b3 b1.size))
end Go.Proofs.YtnieminnnkbneaaGreat

namespace Go.Proofs.YtnieminnnkbneaaGreat
open Go.RowKit

def fr (b : Bs) : Bs := headB b ++ b
theorem fr_length (b : Bs) : (fr b).length = 8 + b.length := by unfold fr; rw [List.length_append, headB_length]

theorem loop_step {xs b rest : Bs} {p f : Nat} {s s' : RS} (h : xs.drop p = fr b ++ rest) (h1 : 1 ≤ b.length) (h2 : b.length ≤ 65536) (hf : pgFrame s b = some (s', false)) :
  pgLoop xs (f + 1) p s = pgLoop xs f (p + (fr b).length) s' ∧ xs.drop (p + (fr b).length) = rest := by
 obtain ⟨n0, n1, n2, n3, _⟩ := next_fwd (by rw [h, fr, List.append_assoc]) h1 h2
 rw [fr_length, ← Nat.add_assoc]
 refine ⟨?_, n3⟩
 rw [pgLoop, if_neg (by rw [n0]; decide), if_neg (by rw [n0]; decide), n2, hf, n1]
 rfl

/-- Bodies that are read one behind the other, none of them the end's. -/
inductive Runs : RS → RS → List Bs → Prop
 | nil (s : RS) : Runs s s []
 | cons {s s1 s' : RS} {b : Bs} {bs : List Bs} (h1 : 1 ≤ b.length) (h2 : b.length ≤ 65536) (hf : pgFrame s b = some (s1, false)) (h : Runs s1 s' bs) : Runs s s' (b :: bs)

theorem Runs.append {s s1 s' : RS} {cs bs : List Bs} (h : Runs s s1 cs) (k : Runs s1 s' bs) : Runs s s' (cs ++ bs) := by
 induction h with
 | nil => exact k
 | cons h1 h2 hf _ ih => exact .cons h1 h2 hf (ih k)
theorem Runs.one {s s' : RS} {b : Bs} (h1 : 1 ≤ b.length) (h2 : b.length ≤ 65536) (hf : pgFrame s b = some (s', false)) : Runs s s' [b] := .cons h1 h2 hf (.nil _)

theorem Runs.loop {xs rest : Bs} {s s' : RS} {bs : List Bs} (h : Runs s s' bs) : ∀ (p f : Nat), xs.drop p = bs.flatMap fr ++ rest →
  pgLoop xs (f + bs.length) p s = pgLoop xs f (p + (bs.flatMap fr).length) s' ∧ xs.drop (p + (bs.flatMap fr).length) = rest := by
 induction h with
 | nil s => intro p f h; exact ⟨rfl, h⟩
 | cons h1 h2 hf _ ih =>
  intro p f h
  rw [List.flatMap_cons, List.append_assoc] at h
  obtain ⟨e1, e2⟩ := loop_step (f := f + _) h h1 h2 hf
  obtain ⟨e3, e4⟩ := ih _ f e2
  rw [List.length_cons, ← Nat.add_assoc, e1, e3, List.flatMap_cons, List.length_append, ← Nat.add_assoc]
  exact ⟨rfl, e4⟩

theorem procBytes_le {p : Prc} (h : (procCheck p).2 = 0) : (procBytes p).length ≤ 26000 := by
 obtain ⟨h1, _, h3, h4⟩ := procCheck_zero h
 have hn := isName_le h1
 have e1 := encText_le p.name.data.toList
 have e2 := encNumber_le p.args
 have e3 := encNumber_le (p.code.length : Int)
 have e4 := codeBytes_le (l := p.code) (fun x hx => by
  obtain ⟨j, hj, rfl⟩ := List.getElem_of_mem hx
  exact (insCheck_zero (h4 j hj)).2.2)
 have e5 : p.name.data.toList.length = p.name.size := size_data p.name
 unfold procBytes
 simp only [List.length_append]
 omega

theorem bodyF_le (k : UInt8) (f : Nat) (extra : Bs) : 1 ≤ (bodyF k f extra).length ∧ (bodyF k f extra).length ≤ 11 + extra.length := by
 have := encNumber_le (f : Int)
 unfold bodyF
 simp only [List.cons_append, List.length_cons, List.length_append]
 omega

theorem pwProcE_zero {x : PW} {p : Prc} (h : pwProcE x p = 0) : (procCheck p).2 = 0 ∧ x.entries = 0 ∧ leS p.name x.name = false := by
 unfold pwProcE at h
 by_cases h1 : (procCheck p).2 ≠ 0
 ·rw [if_pos h1] at h; exact absurd h h1
 rw [if_neg h1] at h
 by_cases h2 : 0 < x.entries
 ·rw [if_pos h2] at h; cases h
 rw [if_neg h2] at h
 by_cases h3 : leS p.name x.name = true
 ·rw [if_pos h3] at h; cases h
 exact ⟨by simpa using h1, by omega, by simpa using h3⟩

theorem pwEntE_zero {x : PW} {y : Ent} (h : pwEntE x y = 0) : isKey y.key = true ∧ datumCheck y.v = 0 ∧ y.v.kind ≠ 0 ∧ leS y.key x.key = false := by
 unfold pwEntE at h
 by_cases hK : isKey y.key = false
 ·rw [if_pos hK] at h; cases h
 rw [if_neg hK] at h
 by_cases hC : datumCheck y.v ≠ 0
 ·rw [if_pos hC] at h; exact absurd h hC
 rw [if_neg hC] at h
 by_cases hZ : y.v.kind = 0
 ·rw [if_pos hZ] at h; cases h
 rw [if_neg hZ] at h
 by_cases hO : leS y.key x.key = true
 ·rw [if_pos hO] at h; cases h
 exact ⟨by simpa using hK, by simpa using hC, hZ, by simpa using hO⟩

theorem ents_fit : ∀ (l : List Ent) (x x' : PW), pwEnts x l = (x', 0) → ∀ y ∈ l, datumCheck y.v = 0 ∧ y.key.size ≤ 64
 | [], _, _, _, y, hy => by cases hy
 | z :: l, x, x', h, y, hy => by
  have hz : pwEntE x z = 0 := by
   by_cases hz : pwEntE x z = 0
   ·exact hz
   ·rw [pwEnts, if_pos hz] at h
    exact absurd (congrArg Prod.snd h) hz
  rw [pwEnts, if_neg (by simpa using hz)] at h
  rcases List.mem_cons.1 hy with rfl | hy
  ·obtain ⟨g1, g2, _⟩ := pwEntE_zero hz
   refine ⟨g2, ?_⟩
   unfold isKey at g1
   simp at g1
   omega
  ·exact ents_fit l _ x' h y hy

end Go.Proofs.YtnieminnnkbneaaGreat

namespace Go.Proofs.YtnieminnnkbneaaGreat
open Go.RowKit

abbrev nilS : Value := .slice none 0 0
/-- What Page and End answer. -/
def PgPost (w : World) (p : Nat) (q : (Bs × PW) × Int) (e : Ending) (w' : World) : Prop :=
 ∃ A n c, n = q.1.1.length ∧ e = .returned (.tuple #[.slice A n c, .int .i64 q.2]) ∧ w'.ownsRow w.heap.size 5 1 (.slice A n c) n (cellsB q.1.1) ∧ Loc w' p (q.1.2.cells nilS) 56 ∧ Keep w.heap.size (· = p) w w'
theorem PgPost.no {w w' : World} {p : Nat} {q : (Bs × PW) × Int} {x : PW} {E : Int} (h : q = (([], x), E)) (L : Loc w p (x.cells nilS) 56) (hb : Below w.heap.size w w') : PgPost w p q (.returned (.tuple #[.slice none 0 0, .int .i64 E])) w' := by
 subst h
 exact ⟨none, 0, 0, rfl, rfl, World.ownsRow_nil _ _ _ _, L.below hb L.lt, Keep.of_below hb _⟩

/-- A procedure that came: its code stands somewhere. -/
structure PrcC.ok (W : World) (y : PrcC) : Prop where
 r : Row W y.A (codeCells y.p.code)
 l : y.p.code.length ≤ 140737488355328
 i : y.p.inR
theorem PrcC.ok.below {W V : World} {y : PrcC} (h : y.ok W) (hb : Below W.heap.size W V) : y.ok V := ⟨h.r.of_below hb (Nat.le_refl _), h.l, h.i⟩
theorem prcsCells_length (l : List PrcC) : (prcsCells l).length = l.length * 3 := by
 induction l with
 | nil => rfl
 | cons x l ih => simp [prcsCells, PrcC.cells, procCells] at ih ⊢; omega
theorem prcsCells_get (l : List PrcC) (k : Nat) (h : k < l.length) (j : Nat) (hj : j < 3) : (prcsCells l)[k * 3 + j]? = (l[k]).cells[j]? := by
 induction l generalizing k with
 | nil => simp at h
 | cons x l ih =>
  have hx : prcsCells (x :: l) = x.cells.toList ++ prcsCells l := rfl
  have hx4 : x.cells.toList.length = 3 := rfl
  rw [hx]
  cases k with
  | zero =>
   rw [List.getElem?_append_left (by rw [hx4]; omega)]
   simp
  | succ k =>
   rw [List.getElem?_append_right (by rw [hx4]; omega), hx4, show (k + 1) * 3 + j - 3 = k * 3 + j by omega, ih k (by simpa using h)]
   rfl
theorem Row.prcs {w : World} {A : Option Addr} {l : List PrcC} (h : Row w A (prcsCells l)) (hp : 0 < l.length) : ∃ b off, A = some ⟨b, off, none⟩ ∧ b < w.heap.size ∧ ∀ j (hj : j < l.length), ∀ i, i < 3 → w.cell? ⟨b, off + j * 3 + i, none⟩ = (l[j]).cells[i]? := by
 obtain ⟨b, off, hA, hlt, hc⟩ := h.at (by rw [prcsCells_length]; omega)
 refine ⟨b, off, hA, hlt, fun j hj i hi => ?_⟩
 rw [Nat.add_assoc, hc _ (by rw [prcsCells_length]; omega), prcsCells_get l j hj i hi]

theorem pwProcs_step {x : PW} {ys : Bs} {l : List Prc} {k : Nat} (h : k < l.length) : pwProcs x ys (l.drop k) = if pwProcE x l[k] ≠ 0 then ((ys, x), pwProcE x l[k]) else pwProcs (pwProc x l[k]) (ys ++ procFrame x l[k]) (l.drop (k + 1)) := by
 rw [List.drop_eq_getElem_cons h, pwProcs]
theorem pwEnts_step {x : PW} {l : List Ent} {k : Nat} (h : k < l.length) : pwEnts x (l.drop k) = if pwEntE x l[k] ≠ 0 then (x, pwEntE x l[k]) else pwEnts (pwEnt x l[k]) (l.drop (k + 1)) := by
 rw [List.drop_eq_getElem_cons h, pwEnts]

/-- What follows the count of things. -/
def pwTail (x : PW) (es : List Ent) (q : (Bs × PW) × Int) : (Bs × PW) × Int :=
 if q.2 ≠ 0 then (([], x), q.2) else
 if (pwEnts q.1.2 es).2 ≠ 0 then (([], x), (pwEnts q.1.2 es).2) else
 if es.length = 0 then ((q.1.1, (pwEnts q.1.2 es).1), 0) else ((q.1.1 ++ entsFrame (pwEnts q.1.2 es).1 es, { (pwEnts q.1.2 es).1 with frames := (pwEnts q.1.2 es).1.frames + 1 }), 0)
theorem pwPage_eq {x : PW} {ps : List Prc} {es : List Ent} (hl : x.live = true) (hn : ¬ (ps.length + es.length = 0 ∨ 128 < ps.length + es.length)) : pwPage x ps es = pwTail x es (pwProcs (pwHead x).2 (pwHead x).1 ps) := by
 unfold pwPage pwTail
 rw [if_neg (by simp [hl]), if_neg hn]
 simp only [List.length_eq_zero_iff]

theorem pwHead_b (x : PW) : (pwHead x).2.frames ≤ x.frames + 1 ∧ (pwHead x).2.procs = x.procs ∧ (pwHead x).2.entries = x.entries ∧ (pwHead x).1.length ≤ 100 ∧ (pwHead x).2.number = x.number ∧ (pwHead x).2.mark = x.mark ∧ (pwHead x).2.live = x.live := by
 unfold pwHead
 by_cases h : x.frames = 0
 ·rw [if_pos h]
  refine ⟨by show 1 ≤ _; omega, rfl, rfl, ?_, rfl, rfl, rfl⟩
  have e1 := encNumber_le (x.number : Int)
  have e2 := encNumber_le (x.mark : Int)
  have e3 := bodyF_le 1 0 (encNumber x.number ++ encNumber x.mark)
  rw [List.length_append] at e3
  show (headB _ ++ _).length ≤ 100
  rw [List.length_append, headB_length]
  omega
 ·rw [if_neg h]
  exact ⟨Nat.le_succ _, rfl, rfl, Nat.zero_le _, rfl, rfl, rfl⟩
theorem procFrame_le {x : PW} {p : Prc} (h : pwProcE x p = 0) : (procFrame x p).length ≤ 27000 := by
 have e1 := procBytes_le (pwProcE_zero h).1
 have e2 := encText_le (procBytes p)
 have e3 := bodyF_le 2 x.frames (encText (procBytes p))
 unfold procFrame frameB
 rw [List.length_append, headB_length]
 omega

theorem WSt.bel {w0 w W : World} {p : Nat} {x : PW} {ys : Bs} (h : WSt w W p x ys) (hb : Below w0.heap.size w0 w) (hp : w0.heap.size ≤ p) : Below w0.heap.size w0 W := by
 obtain ⟨A, n, c, hn, L, o, K⟩ := h
 exact below_keep hb K hb.size (fun k hk => by omega)

theorem WSt.loc {w W : World} {p b : Nat} {x : PW} {ys : Bs} {c : Array Value} {t : TypeId} (h : WSt w W p x ys) (hl : Loc w b c t) (hne : b ≠ p) : Loc W b c t := by
 obtain ⟨A, n, c, hn, L, o, K⟩ := h
 exact hl.keep K hl.lt hne

/-- A Writer laid cell by cell. -/
def putP (w : World) (p : Nat) (x : PW) (out : Value) : World :=
 ((((((((w.setCell ⟨p, 0, none⟩ (.bool x.live)).setCell ⟨p, 1, none⟩ (.int .i64 x.number)).setCell ⟨p, 2, none⟩ (.int .i64 x.mark)).setCell ⟨p, 3, none⟩ (.int .i64 x.frames)).setCell ⟨p, 4, none⟩ (.int .i64 x.procs)).setCell ⟨p, 5, none⟩ (.int .i64 x.entries)).setCell ⟨p, 6, none⟩ (.string x.name)).setCell ⟨p, 7, none⟩ (.string x.key)).setCell ⟨p, 8, none⟩ out
theorem put9_loc {w : World} {p : Nat} {v0 v1 v2 v3 v4 v5 v6 v7 v8 : Value} {t : TypeId} (h : Loc w p #[v0, v1, v2, v3, v4, v5, v6, v7, v8] t) (u0 u1 u2 u3 u4 u5 u6 u7 u8 : Value) :
  Loc (((((((((w.setCell ⟨p, 0, none⟩ u0).setCell ⟨p, 1, none⟩ u1).setCell ⟨p, 2, none⟩ u2).setCell ⟨p, 3, none⟩ u3).setCell ⟨p, 4, none⟩ u4).setCell ⟨p, 5, none⟩ u5).setCell ⟨p, 6, none⟩ u6).setCell ⟨p, 7, none⟩ u7).setCell ⟨p, 8, none⟩ u8) p #[u0, u1, u2, u3, u4, u5, u6, u7, u8] t := by
 have l0 := h.set 0 u0
 simp only [List.setIfInBounds_toArray, List.set_cons_zero] at l0
 have l1 := l0.set 1 u1
 simp only [List.setIfInBounds_toArray, List.set_cons_zero, List.set_cons_succ] at l1
 have l2 := l1.set 2 u2
 simp only [List.setIfInBounds_toArray, List.set_cons_zero, List.set_cons_succ] at l2
 have l3 := l2.set 3 u3
 simp only [List.setIfInBounds_toArray, List.set_cons_zero, List.set_cons_succ] at l3
 have l4 := l3.set 4 u4
 simp only [List.setIfInBounds_toArray, List.set_cons_zero, List.set_cons_succ] at l4
 have l5 := l4.set 5 u5
 simp only [List.setIfInBounds_toArray, List.set_cons_zero, List.set_cons_succ] at l5
 have l6 := l5.set 6 u6
 simp only [List.setIfInBounds_toArray, List.set_cons_zero, List.set_cons_succ] at l6
 have l7 := l6.set 7 u7
 simp only [List.setIfInBounds_toArray, List.set_cons_zero, List.set_cons_succ] at l7
 have l8 := l7.set 8 u8
 simp only [List.setIfInBounds_toArray, List.set_cons_zero, List.set_cons_succ] at l8
 exact l8
theorem putP_loc {w : World} {p : Nat} {x x0 : PW} {out o0 : Value} (h : Loc w p (x0.cells o0) 56) : Loc (putP w p x out) p (x.cells out) 56 :=
 put9_loc h _ _ _ _ _ _ _ _ _
theorem putP_keep {a w : World} {p : Nat} {x : PW} {out : Value} {B : Nat} (h : Keep B (· = p) a w) : Keep B (· = p) a (putP w p x out) :=
 ((((((((h.setCell (p := ⟨p, 0, none⟩) (.inr rfl) _).setCell (p := ⟨p, 1, none⟩) (.inr rfl) _).setCell (p := ⟨p, 2, none⟩) (.inr rfl) _).setCell (p := ⟨p, 3, none⟩) (.inr rfl) _).setCell (p := ⟨p, 4, none⟩) (.inr rfl) _).setCell (p := ⟨p, 5, none⟩) (.inr rfl) _).setCell (p := ⟨p, 6, none⟩) (.inr rfl) _).setCell (p := ⟨p, 7, none⟩) (.inr rfl) _).setCell (p := ⟨p, 8, none⟩) (.inr rfl) _
theorem putP_owns {W : World} {base p size n : Nat} {e : TypeId} {v : Value} {xs : List Value} {x : PW} {out : Value} (h : W.ownsRow base e size v n xs) (hp : v.ownBlock ≠ some p) : (putP W p x out).ownsRow base e size v n xs :=
 owns_setCell (a := ⟨p, 8, none⟩) (owns_setCell (a := ⟨p, 7, none⟩) (owns_setCell (a := ⟨p, 6, none⟩) (owns_setCell (a := ⟨p, 5, none⟩) (owns_setCell (a := ⟨p, 4, none⟩) (owns_setCell (a := ⟨p, 3, none⟩) (owns_setCell (a := ⟨p, 2, none⟩) (owns_setCell (a := ⟨p, 1, none⟩) (owns_setCell (a := ⟨p, 0, none⟩) h hp _) hp _) hp _) hp _) hp _) hp _) hp _) hp _) hp _
theorem PgPost.fin {w wt : World} {p xb nt ct B : Nat} {At : Option Addr} {x0 xt : PW} {ys : Bs} {Q : (Bs × PW) × Int} (hQ : Q = ((ys, xt), 0)) (hn : nt = ys.length) (Lt : Loc wt xb (xt.cells (.slice At nt ct)) 56) (Lp : Loc wt p (x0.cells nilS) 56)
  (ot : wt.ownsRow B 5 1 (.slice At nt ct) nt (cellsB ys)) (hB : w.heap.size ≤ B) (hb : Below w.heap.size w wt) (hxb : w.heap.size ≤ xb) (hpx : p ≠ xb) :
  PgPost w p Q (.returned (.tuple #[.slice At nt ct, .int .i64 0])) (putP (wt.setCell ⟨xb, 8, none⟩ nilS) p xt nilS) := by
 subst hQ
 refine ⟨At, nt, ct, hn, rfl, ?_, ?_, ?_⟩
 ·exact putP_owns (owns_setCell (a := ⟨xb, 8, none⟩) (owns_mono ot hB) (owns_ne ot Lt (by decide)) _) (owns_ne ot Lp (by decide))
 ·exact putP_loc (Lp.other (a := ⟨xb, 8, none⟩) hpx _)
 ·exact putP_keep ((Keep.of_below hb (· = p)).setCell (p := ⟨xb, 8, none⟩) (.inl hxb) _)

set_option maxRecDepth 100000 in
set_option maxHeartbeats 8000000 in
theorem ppage_any (p : Nat) (x : PW) (pl : List PrcC) (es : List Ent) (A B : Option Addr) (ca cb : Nat) (w : World) (L : Loc w p (x.cells nilS) 56) (hrp : Row w A (prcsCells pl)) (hpo : ∀ y ∈ pl, y.ok w) (hre : Row w B (entsCells es)) (heo : ∀ y ∈ es, y.inR)
  (hpl : pl.length ≤ 140737488355328) (hel : es.length ≤ 140737488355328) (hn1 : x.number ≤ 281474976710655) (hn2 : x.mark ≤ 281474976710655) (hf : x.frames ≤ 281474976710000) (hpr : x.procs ≤ 281474976710000) (hen : x.entries ≤ 281474976710000) :
  Calls Tryz.prog 15 #[.pointer (some ⟨p, 0, none⟩), .slice A pl.length ca, .slice B es.length cb] w (PgPost w p (pwPage x (pl.map (·.p)) es)) := by
 have hp := L.lt
 obtain ⟨np, hnp⟩ : ∃ np, np = pl.length := ⟨_, rfl⟩
 obtain ⟨ne, hne⟩ : ∃ ne, ne = es.length := ⟨_, rfl⟩
 rw [← hnp] at hpl ⊢
 rw [← hne] at hel ⊢
 have HRP := Lib.hid hrp
 have HPO := Lib.hid hpo
 have HRE := Lib.hid hre
 have HEO := Lib.hid heo
 have HNP := Lib.hid hnp
 have HNE := Lib.hid hne
 have HL := Lib.hid L
 obtain ⟨Q, hQ⟩ : ∃ Q, Q = pwPage x (pl.map (·.p)) es := ⟨_, rfl⟩
 rw [← hQ]
 have HQ := Lib.hid hQ
 have L1 := L.alloc (.cells #[.slice B ne cb] 37)
 have b1 := (Below.refl w.heap.size w).alloc (Nat.le_refl _) (.cells #[.slice B ne cb] 37)
 clear hrp hpo hre heo hnp hne hQ L
 cases hlv : x.live with
 | false =>
  have HX : Hid (Q = (([], x), 25)) := Lib.hid (by rw [HQ.out]; unfold pwPage; rw [if_pos hlv])
  have k0 := L1.cell 0
  simp only [PW.cells, List.getElem?_toArray, List.getElem?_cons_zero, hlv] at k0
  clear hlv HQ
  go_enter Tryz.func15, Tryz.ntmps15
  go_wp2
  go_ret2
  exact .no HX.out HL.out b1
 | true =>
  have k0 := L1.cell 0
  simp only [PW.cells, List.getElem?_toArray, List.getElem?_cons_zero, hlv] at k0
  by_cases hcnt : np + ne = 0 ∨ 128 < np + ne
  ·have HX : Hid (Q = (([], x), 1)) := Lib.hid (by rw [HQ.out]; unfold pwPage; rw [if_neg (by simp [hlv]), if_pos (by rw [List.length_map, ← HNP.out, ← HNE.out]; exact hcnt)])
   clear hlv HQ
   rcases hcnt with hc | hc
   ·obtain rfl : np = 0 := by omega
    obtain rfl : ne = 0 := by omega
    go_enter Tryz.func15, Tryz.ntmps15
    go_wp2
    go_ret2
    exact .no HX.out HL.out b1
   ·have t1 : ((np : Int) + (ne : Int) == 0) = false := by simp; omega
    have t2 : (128 : Int) < (np : Int) + (ne : Int) := by omega
    go_enter Tryz.func15, Tryz.ntmps15
    go_wp2
    go_ret2
    exact .no HX.out HL.out b1
  ·have hq := pwPage_eq (x := x) (ps := pl.map (·.p)) (es := es) hlv (by rw [List.length_map, ← HNP.out, ← HNE.out]; exact hcnt)
   rw [← HQ.out] at hq
   have HQ2 := Lib.hid hq
   have t1 : ((np : Int) + (ne : Int) == 0) = false := by simp; omega
   have t2 : ¬ (128 : Int) < (np : Int) + (ne : Int) := by omega
   have hnn : np + ne ≤ 128 := by omega
   have k1 := L1.cell 1; have k2 := L1.cell 2; have k3 := L1.cell 3; have k4 := L1.cell 4; have k5 := L1.cell 5; have k6 := L1.cell 6; have k7 := L1.cell 7; have k8 := L1.cell 8
   simp only [PW.cells, List.getElem?_toArray, List.getElem?_cons_zero, List.getElem?_cons_succ] at k1 k2 k3 k4 k5 k6 k7 k8
   clear hq HQ hcnt
   go_enter Tryz.func15, Tryz.ntmps15
   go_upto_region 9 with (fail)
   have hc : x.cells nilS = #[.bool true, .int .i64 x.number, .int .i64 x.mark, .int .i64 x.frames, .int .i64 x.procs, .int .i64 x.entries, .string x.name, .string x.key, nilS] := by simp [PW.cells, hlv]
   have L2 := Loc.new (w.alloc (.cells #[.slice B ne cb] 37)) #[.bool true, .int .i64 x.number, .int .i64 x.mark, .int .i64 x.frames, .int .i64 x.procs, .int .i64 x.entries, .string x.name, .string x.key, nilS] 56
   have C2 := ((Loc.new w #[.slice B ne cb] 37).alloc (.cells #[.bool true, .int .i64 x.number, .int .i64 x.mark, .int .i64 x.frames, .int .i64 x.procs, .int .i64 x.entries, .string x.name, .string x.key, nilS] 56))
   have b2 := b1.alloc b1.size (.cells #[.bool true, .int .i64 x.number, .int .i64 x.mark, .int .i64 x.frames, .int .i64 x.procs, .int .i64 x.entries, .string x.name, .string x.key, nilS] 56)
   rw [World.size_alloc] at L2
   obtain ⟨W2, hW2⟩ : ∃ W2, W2 = (w.alloc (.cells #[.slice B ne cb] 37)).alloc (.cells #[.bool true, .int .i64 x.number, .int .i64 x.mark, .int .i64 x.frames, .int .i64 x.procs, .int .i64 x.entries, .string x.name, .string x.key, nilS] 56) := ⟨_, rfl⟩
   have hs2 : W2.heap.size = w.heap.size + 2 := by rw [hW2]; simp
   rw [← hW2] at L2 C2 b2
   rw [← hW2]
   rw [← hc] at L2
   have HB2 := Lib.hid b2
   have HC2 := Lib.hid C2
   have HLP : Hid (Loc W2 p (x.cells nilS) 56) := Lib.hid (HL.out.below b2 hp)
   have HS2 := Lib.hid hs2
   have HH := Lib.hid (phead_any (w.heap.size + 1) x nilS W2 L2 hn1 hn2)
   have HPB := Lib.hid (pwHead_b x)
   have HLV := Lib.hid hlv
   obtain ⟨xh, hxh⟩ : ∃ xh, xh = (pwHead x).2 := ⟨_, rfl⟩
   obtain ⟨yh, hyh⟩ : ∃ yh, yh = (pwHead x).1 := ⟨_, rfl⟩
   rw [← hxh, ← hyh] at HH HPB HQ2
   clear hW2 hc L2 C2 b2 k0 k1 k2 k3 k4 k5 k6 k7 k8 L1 b1 hlv hxh hyh t1 t2
   go_wp2_with (go_at_call 34; refine HH.out.mono ?_; rintro e w3 ⟨rfl, S3⟩)
   go_loopw [43] (fun i wr => ∃ (k : Nat) (x' : PW) (ys : Bs), k ≤ np ∧ i = .int .i64 k ∧ WSt W2 wr (w.heap.size + 1) x' ys ∧ Hid (x'.frames ≤ x.frames + 1 + k ∧ x'.procs ≤ x.procs + k ∧ x'.entries = x.entries ∧ ys.length ≤ 100 + 27000 * k ∧ x'.number = x.number ∧ x'.mark = x.mark) ∧ Hid (pwProcs xh yh (pl.map (·.p)) = pwProcs x' ys ((pl.map (·.p)).drop k))) (fun i _ => np - (intOf i).toNat)
   case atStart => exact ⟨0, xh, yh, Nat.zero_le _, rfl, S3, Lib.hid (by have := HPB.out; omega), Lib.hid (by rw [List.drop_zero])⟩
   case round =>
    obtain ⟨wi, rfl⟩ : ∃ wi, wi = wr := ⟨_, rfl⟩
    obtain ⟨k, x', ys, hk, rfl, SI, HBI, HPI⟩ := hrel
    clear S3
    have bI := SI.bel HB2.out (by omega)
    by_cases hkn : k < np
    ·have hkn' : (k : Int) < (np : Int) := by omega
     have hkl : k < pl.length := by rw [← HNP.out]; exact hkn
     have hst := HPI.out
     rw [pwProcs_step (by rw [List.length_map]; exact hkl), List.getElem_map] at hst
     obtain ⟨b, off, rfl, hbl, hcc⟩ := (HRP.out.of_below bI (Nat.le_refl _)).prcs (by omega)
     have hcx := hcc k hkl
     have hyo := (HPO.out pl[k] (List.getElem_mem hkl)).below bI
     generalize pl[k] = Y at *
     obtain ⟨⟨yn, ya, yc⟩, YA, ycp⟩ := Y
     have x0 := hcx 0 (by decide); have x1 := hcx 1 (by decide); have x2 := hcx 2 (by decide)
     simp only [PrcC.cells, procCells, List.getElem?_toArray, List.getElem?_cons_zero, List.getElem?_cons_succ, Nat.add_zero] at x0 x1 x2
     have SA := SI.below ((Below.refl wi.heap.size wi).alloc (Nat.le_refl _) (.cells #[.string yn, .int .i64 ya, .slice YA yc.length ycp] 54))
     have hya := hyo.below ((Below.refl wi.heap.size wi).alloc (Nat.le_refl _) (.cells #[.string yn, .int .i64 ya, .slice YA yc.length ycp] 54))
     have hbnd := HBI.out
     have hcall := pproc_any (w.heap.size + 1) x' ys ⟨⟨yn, ya, yc⟩, YA, ycp⟩ W2 _ SA (by omega) (by omega) (by omega) hya.r hya.l hya.i
     unfold PrcC.cells procCells at hcall
     simp only at hcall hst
     have HST := Lib.hid hst
     have HCALL := Lib.hid hcall
     clear hst hcc hcx hyo hya SA hcall hbnd
     obtain ⟨E, hE⟩ : ∃ E, E = pwProcE x' ⟨yn, ya, yc⟩ := ⟨_, rfl⟩
     have HE := Lib.hid hE
     clear hE
     by_cases hE0 : E = 0
     ·have hE1 : pwProcE x' ⟨yn, ya, yc⟩ = 0 := by rw [← HE.out]; exact hE0
      have hc0 := HCALL.out.mono (fun e w' h => (by
       obtain ⟨h1, h2⟩ := h
       rw [hE1] at h1
       rw [if_pos hE1, if_pos hE1] at h2
       exact ⟨h1, h2⟩ : e = .returned (.int .i64 0) ∧ WSt W2 w' (w.heap.size + 1) (pwProc x' ⟨yn, ya, yc⟩) (ys ++ procFrame x' ⟨yn, ya, yc⟩)))
      have HC0 := Lib.hid hc0
      have hst := HST.out
      rw [if_neg (by simpa using hE1)] at hst
      have HST2 := Lib.hid hst
      have HPF := Lib.hid (procFrame_le hE1)
      clear hc0 HCALL hst HST hE1 hE0 bI
      go_wp2_with (go_at_call 35; refine HC0.out.mono ?_; rintro e w5 ⟨rfl, S5⟩)
      go_roundw
      case rel =>
       refine ⟨k + 1, _, _, by omega, by go_num, S5, Lib.hid ?_, Lib.hid ?_⟩
       ·have h1 := HBI.out
        have h2 := HPF.out
        refine ⟨?_, ?_, h1.2.2.1, ?_, h1.2.2.2.2.1, h1.2.2.2.2.2⟩
        ·show x'.frames + 1 ≤ _; omega
        ·show x'.procs + 1 ≤ _; omega
        ·rw [List.length_append]; omega
       ·exact HST2.out
      case measure => simp [intOf]; omega
     ·have hE1 : pwProcE x' ⟨yn, ya, yc⟩ ≠ 0 := by rw [← HE.out]; exact hE0
      have hc0 := HCALL.out.mono (fun e w' h => (by
       obtain ⟨h1, h2⟩ := h
       rw [if_neg hE1, if_neg hE1] at h2
       rw [← HE.out] at h1
       exact ⟨h1, h2⟩ : e = .returned (.int .i64 E) ∧ WSt W2 w' (w.heap.size + 1) x' ys))
      have HC0 := Lib.hid hc0
      have hst := HST.out
      rw [if_pos hE1] at hst
      have HX : Hid (Q = (([], x), E)) := Lib.hid (by
       rw [HQ2.out, hst, HE.out]
       unfold pwTail
       rw [if_pos hE1])
      have t1 : (E != 0) = true := by simpa using hE0
      clear hc0 HCALL hst HST hE1 hE0 bI
      go_wp2_with (go_at_call 35; refine HC0.out.mono ?_; rintro e w5 ⟨rfl, S5⟩)
      go_ret2
      exact .no HX.out HL.out (S5.bel HB2.out (by omega))
    ·obtain rfl : k = np := by omega
     have hpp := HPI.out
     rw [List.drop_eq_nil_of_le (by rw [List.length_map, ← HNP.out]; exact Nat.le_refl _), pwProcs] at hpp
     have hq := HQ2.out
     rw [hpp] at hq
     unfold pwTail at hq
     simp only at hq
     rw [if_neg (by simp), ← HNE.out] at hq
     have HQ3 := Lib.hid hq
     have C3 := SI.loc HC2.out (by omega)
     clear hpp hq HPI HQ2
     have c0 := C3.cell 0
     simp only [List.getElem?_toArray, List.getElem?_cons_zero] at c0
     clear bI
     go_wp2
     go_loopw [55] (fun i wr => ∃ (j : Nat) (x'' : PW), j ≤ ne ∧ i = .int .i64 j ∧ WSt W2 wr (w.heap.size + 1) x'' ys ∧ Hid (x''.frames = x'.frames ∧ x''.entries ≤ x.entries + j) ∧ Hid (pwEnts x' es = pwEnts x'' (es.drop j))) (fun i _ => ne - (intOf i).toNat)
     case atStart => exact ⟨0, x', Nat.zero_le _, rfl, SI, Lib.hid (by have := HBI.out; omega), Lib.hid (by rw [List.drop_zero])⟩
     case round =>
      obtain ⟨wj, rfl⟩ : ∃ wj, wj = wr := ⟨_, rfl⟩
      obtain ⟨j, x'', hj, rfl, SJ, HBJ, HPJ⟩ := hrel
      clear SI C3 c0
      by_cases hjn : j < ne
      ·have hjn' : (j : Int) < (ne : Int) := by omega
       have hjl : j < es.length := by rw [← HNE.out]; exact hjn
       have bJ := SJ.bel HB2.out (by omega)
       have hst := HPJ.out
       rw [pwEnts_step hjl] at hst
       obtain ⟨b, off, rfl, hbl, hcc⟩ := (HRE.out.of_below bJ (Nat.le_refl _)).ents (by omega)
       have hcx := hcc j hjl
       generalize es[j] = Y at *
       obtain ⟨yk, ⟨vk, vn, vt⟩⟩ := Y
       have x0 := hcx 0 (by decide); have x1 := hcx 1 (by decide); have x2 := hcx 2 (by decide); have x3 := hcx 3 (by decide)
       simp only [Ent.cells, List.getElem?_toArray, List.getElem?_cons_zero, List.getElem?_cons_succ, Nat.add_zero] at x0 x1 x2 x3
       have SA := SJ.below ((Below.refl wj.heap.size wj).alloc (Nat.le_refl _) (.cells #[.string yk, .int .i64 vk, .int .i64 vn, .string vt] 62))
       have hcall := pentry_any (w.heap.size + 1) x'' ys ⟨yk, ⟨vk, vn, vt⟩⟩ W2 _ SA (by have := HBJ.out; omega)
       unfold Ent.cells at hcall
       simp only at hcall
       have HST := Lib.hid hst
       have HCALL := Lib.hid hcall
       clear hst hcc hcx SA hcall
       obtain ⟨E, hE⟩ : ∃ E, E = pwEntE x'' ⟨yk, ⟨vk, vn, vt⟩⟩ := ⟨_, rfl⟩
       have HE := Lib.hid hE
       clear hE
       by_cases hE0 : E = 0
       ·have hE1 : pwEntE x'' ⟨yk, ⟨vk, vn, vt⟩⟩ = 0 := by rw [← HE.out]; exact hE0
        have hc0 := HCALL.out.mono (fun e w' h => (by
         obtain ⟨h1, h2⟩ := h
         rw [hE1] at h1
         rw [if_pos hE1] at h2
         exact ⟨h1, h2⟩ : e = .returned (.int .i64 0) ∧ WSt W2 w' (w.heap.size + 1) (pwEnt x'' ⟨yk, ⟨vk, vn, vt⟩⟩) ys))
        have HC0 := Lib.hid hc0
        have hst := HST.out
        rw [if_neg (by simpa using hE1)] at hst
        have HST2 := Lib.hid hst
        clear hc0 HCALL hst HST hE1 hE0 bJ
        go_wp2_with (go_at_call 36; refine HC0.out.mono ?_; rintro e w5 ⟨rfl, S5⟩)
        go_roundw
        case rel =>
         refine ⟨j + 1, _, by omega, by go_num, S5, Lib.hid ?_, HST2⟩
         have h1 := HBJ.out
         exact ⟨h1.1, by show x''.entries + 1 ≤ _; omega⟩
        case measure => simp [intOf]; omega
       ·have hE1 : pwEntE x'' ⟨yk, ⟨vk, vn, vt⟩⟩ ≠ 0 := by rw [← HE.out]; exact hE0
        have hc0 := HCALL.out.mono (fun e w' h => (by
         obtain ⟨h1, h2⟩ := h
         rw [if_neg hE1] at h2
         rw [← HE.out] at h1
         exact ⟨h1, h2⟩ : e = .returned (.int .i64 E) ∧ WSt W2 w' (w.heap.size + 1) x'' ys))
        have HC0 := Lib.hid hc0
        have hst := HST.out
        rw [if_pos hE1, ← HE.out] at hst
        have HX : Hid (Q = (([], x), E)) := Lib.hid (by
         rw [HQ3.out, hst]
         rw [if_pos hE0])
        have t1 : (E != 0) = true := by simpa using hE0
        clear hc0 HCALL hst HST hE1 hE0 bJ
        go_wp2_with (go_at_call 36; refine HC0.out.mono ?_; rintro e w5 ⟨rfl, S5⟩)
        go_ret2
        exact .no HX.out HL.out (S5.bel HB2.out (by omega))
      ·obtain rfl : j = ne := by omega
       have hpp := HPJ.out
       rw [List.drop_eq_nil_of_le (by rw [← HNE.out]; exact Nat.le_refl _), pwEnts] at hpp
       have HPP := Lib.hid hpp
       have hq := HQ3.out
       rw [hpp] at hq
       simp only at hq
       rw [if_neg (by simp)] at hq
       have HQ4 := Lib.hid hq
       have C3 := SJ.loc HC2.out (by omega)
       have c0 := C3.cell 0
       simp only [List.getElem?_toArray, List.getElem?_cons_zero] at c0
       clear hpp hq HPJ HQ3
       by_cases hj0 : j = 0
       ·have hq := HQ4.out
        rw [if_pos hj0] at hq
        have HQ5 := Lib.hid hq
        subst hj0
        clear hq HQ4
        have LpT := SJ.loc HLP.out (by omega)
        have bT := SJ.bel HB2.out (by omega)
        obtain ⟨At, nt, ct, hnt, Lt, ot, _⟩ := SJ
        have u0 := Lt.cell 0; have y0 := LpT.cell 0; have fy0 := LpT.free 0
        have u1 := Lt.cell 1; have y1 := LpT.cell 1; have fy1 := LpT.free 1
        have u2 := Lt.cell 2; have y2 := LpT.cell 2; have fy2 := LpT.free 2
        have u3 := Lt.cell 3; have y3 := LpT.cell 3; have fy3 := LpT.free 3
        have u4 := Lt.cell 4; have y4 := LpT.cell 4; have fy4 := LpT.free 4
        have u5 := Lt.cell 5; have y5 := LpT.cell 5; have fy5 := LpT.free 5
        have u6 := Lt.cell 6; have y6 := LpT.cell 6; have fy6 := LpT.free 6
        have u7 := Lt.cell 7; have y7 := LpT.cell 7; have fy7 := LpT.free 7
        have u8 := Lt.cell 8; have y8 := LpT.cell 8; have fy8 := LpT.free 8
        have fu8 := Lt.free 8
        simp only [PW.cells, List.getElem?_toArray, List.getElem?_cons_zero, List.getElem?_cons_succ] at u0 u1 u2 u3 u4 u5 u6 u7 u8 y0 y1 y2 y3 y4 y5 y6 y7 y8
        have hpx : p ≠ w.heap.size + 1 := by omega
        have HFIN := Lib.hid (PgPost.fin HQ5.out hnt Lt LpT ot (by omega : w.heap.size ≤ W2.heap.size) bT (by omega) hpx)
        clear Lt LpT ot bT hnt
        go_wp2
        go_ret2
        exact HFIN.out
       ·have hq := HQ4.out
        rw [if_neg hj0] at hq
        have HQ5 := Lib.hid hq
        have hj1 : (0 : Int) < (j : Int) := by omega
        have bJ := SJ.bel HB2.out (by omega)
        have hfit := ents_fit es x' x'' HPP.out
        have hel2 := entsBytes_le hfit
        have hnl := encNumber_le (es.length : Int)
        have hfl := encNumber_le (x''.frames : Int)
        have hel3 : (entsBytes es).length ≤ 52000 := by unfold entsBytes; rw [List.length_append]; have := HNE.out; omega
        have hM := more_page w.heap.size es B j cb HNE.out (by omega) wj ((3 : UInt8) :: encNumber x''.frames) (by simp; omega) c0 (HRE.out.of_below bJ (Nat.le_refl _)) (fun y hy => ⟨(hfit y hy).1, (hfit y hy).2, HEO.out y hy⟩)
        have hbI := HBI.out
        have hbJ := HBJ.out
        have SJ2 := SJ
        obtain ⟨Aj, nj, cj, hnj, Lj, oj, Kj⟩ := SJ2
        have hF := frame_page (w.heap.size + 1) x'' 3 w.heap.size (entsBytes es) ys Aj nj cj W2.heap.size wj Lj oj hM (by omega) (by omega) (by omega)
        rw [show (((3 : UInt8).toNat : Nat) : Int) = 3 from rfl] at hF
        have HFR := Lib.hid hF
        have HKJ := Lib.hid Kj
        clear hq HQ4 hM hF hel2 hnl hfl hel3 hbI hbJ SJ hnj Lj oj Kj bJ hfit
        go_upto_region 26 with (go_at_call 37; refine HFR.out.mono ?_; rintro e w6 ⟨rfl, hfr⟩)
        have S6 := hfr.st HKJ.out
        clear c0 C3 hfr
        have LpT := S6.loc HLP.out (by omega)
        have bT := S6.bel HB2.out (by omega)
        obtain ⟨At, nt, ct, hnt, Lt, ot, _⟩ := S6
        have u0 := Lt.cell 0; have y0 := LpT.cell 0; have fy0 := LpT.free 0
        have u1 := Lt.cell 1; have y1 := LpT.cell 1; have fy1 := LpT.free 1
        have u2 := Lt.cell 2; have y2 := LpT.cell 2; have fy2 := LpT.free 2
        have u3 := Lt.cell 3; have y3 := LpT.cell 3; have fy3 := LpT.free 3
        have u4 := Lt.cell 4; have y4 := LpT.cell 4; have fy4 := LpT.free 4
        have u5 := Lt.cell 5; have y5 := LpT.cell 5; have fy5 := LpT.free 5
        have u6 := Lt.cell 6; have y6 := LpT.cell 6; have fy6 := LpT.free 6
        have u7 := Lt.cell 7; have y7 := LpT.cell 7; have fy7 := LpT.free 7
        have u8 := Lt.cell 8; have y8 := LpT.cell 8; have fy8 := LpT.free 8
        have fu8 := Lt.free 8
        simp only [PW.cells, List.getElem?_toArray, List.getElem?_cons_zero, List.getElem?_cons_succ] at u0 u1 u2 u3 u4 u5 u6 u7 u8 y0 y1 y2 y3 y4 y5 y6 y7 y8
        have hpx : p ≠ w.heap.size + 1 := by omega
        have HFIN := Lib.hid (PgPost.fin HQ5.out hnt Lt LpT ot (by omega : w.heap.size ≤ W2.heap.size) bT (by omega) hpx)
        clear Lt LpT ot bT hnt
        go_wp2
        go_ret2
        exact HFIN.out
end Go.Proofs.YtnieminnnkbneaaGreat

namespace Go.Proofs.YtnieminnnkbneaaGreat
open Go.RowKit

def pwEndQ (x : PW) : (Bs × PW) × Int := if x.live = false then (([], x), 25) else (((pwHead x).1 ++ endFrame (pwHead x).2, PW.zero), 0)

set_option maxHeartbeats 4000000 in
theorem pend_any (p : Nat) (x : PW) (w : World) (L : Loc w p (x.cells nilS) 56) (hn1 : x.number ≤ 281474976710655) (hn2 : x.mark ≤ 281474976710655) (hf : x.frames ≤ 281474976710000) (hpr : x.procs ≤ 281474976710000) (hen : x.entries ≤ 281474976710000) :
  Calls Tryz.prog 16 #[.pointer (some ⟨p, 0, none⟩)] w (PgPost w p (pwEndQ x)) := by
 have hp := L.lt
 have HL := Lib.hid L
 obtain ⟨Q, hQ⟩ : ∃ Q, Q = pwEndQ x := ⟨_, rfl⟩
 rw [← hQ]
 have L1 := L.alloc (.cells #[.pointer (some ⟨p, 0, none⟩)] 24)
 have b1 := (Below.refl w.heap.size w).alloc (Nat.le_refl _) (.cells #[.pointer (some ⟨p, 0, none⟩)] 24)
 have C1 := Loc.new w #[.pointer (some ⟨p, 0, none⟩)] 24
 unfold pwEndQ at hQ
 have k0 := L1.cell 0
 simp only [PW.cells, List.getElem?_toArray, List.getElem?_cons_zero] at k0
 have HQ := Lib.hid hQ
 clear L hQ
 cases hlv : x.live with
 | false =>
  have HX : Hid (Q = (([], x), 25)) := Lib.hid (by rw [HQ.out, if_pos hlv])
  rw [hlv] at k0
  clear hlv HQ L1 C1
  go_enter Tryz.func16, Tryz.ntmps16
  go_wp2
  go_ret2
  exact .no HX.out HL.out b1
 | true =>
  have HX : Hid (Q = (((pwHead x).1 ++ endFrame (pwHead x).2, PW.zero), 0)) := Lib.hid (by rw [HQ.out, if_neg (by simp [hlv])])
  rw [hlv] at k0
  have HPB := Lib.hid (pwHead_b x)
  have hh := phead_any p x nilS _ L1 hn1 hn2
  obtain ⟨xh, hxh⟩ : ∃ xh, xh = (pwHead x).2 := ⟨_, rfl⟩
  obtain ⟨yh, hyh⟩ : ∃ yh, yh = (pwHead x).1 := ⟨_, rfl⟩
  rw [← hxh, ← hyh] at hh HPB HX
  have HH := Lib.hid hh
  have HC1 := Lib.hid C1
  have HB1 := Lib.hid b1
  have hne : w.heap.size ≠ p := by omega
  clear hlv HQ hh hxh hyh C1 L1
  go_enter Tryz.func16, Tryz.ntmps16
  go_upto_region 6 with (go_at_call 34; refine HH.out.mono ?_; rintro e w3 ⟨rfl, S3⟩; have C3 := S3.loc HC1.out hne; have c3 := C3.cell 0; simp only [List.getElem?_toArray, List.getElem?_cons_zero] at c3)
  have S3' := S3
  obtain ⟨A, n, c, hn, L3, o3, K3⟩ := S3'
  have hb := HPB.out
  have e1 := encNumber_le (xh.procs : Int)
  have e2 := encNumber_le (xh.entries : Int)
  have e3 := encNumber_le (xh.frames : Int)
  have hM := more_end p w.heap.size xh (.slice A n c) w3 ((4 : UInt8) :: encNumber xh.frames) (by simp; omega) L3 c3 (by omega) (by omega)
  have hF := frame_end p xh 4 w.heap.size (encNumber xh.procs ++ encNumber xh.entries) yh A n c _ w3 L3 o3 hM (by omega) (by rw [List.length_append]; omega) (by omega)
  rw [show (((4 : UInt8).toNat : Nat) : Int) = 4 from rfl] at hF
  have HFR := Lib.hid hF
  have HK3 := Lib.hid K3
  clear hM hF hb e1 e2 e3 hn L3 o3 K3 k0 S3
  go_upto_region 7 with (go_at_call 37; refine HFR.out.mono ?_; rintro e w6 ⟨rfl, hfr⟩)
  have S6 := hfr.st HK3.out
  have C6 := S6.loc HC1.out hne
  have c6 := C6.cell 0
  simp only [List.getElem?_toArray, List.getElem?_cons_zero] at c6
  obtain ⟨x6, hx6⟩ : ∃ x6, x6 = ({ xh with frames := xh.frames + 1 } : PW) := ⟨_, rfl⟩
  rw [← hx6] at S6
  clear c3 C3 hfr C6 hx6
  have K6 : Keep w.heap.size (· = p) w w6 := by
   obtain ⟨_, _, _, _, _, _, K⟩ := S6
   exact (Keep.of_below HB1.out (· = p)).step K b1.size (fun _ _ h => h)
  obtain ⟨At, nt, ct, hnt, Lt, ot, _⟩ := S6
  have y0 := Lt.cell 0; have y1 := Lt.cell 1; have y2 := Lt.cell 2; have y3 := Lt.cell 3; have y4 := Lt.cell 4; have y5 := Lt.cell 5; have y6 := Lt.cell 6; have y7 := Lt.cell 7; have y8 := Lt.cell 8
  simp only [PW.cells, List.getElem?_toArray, List.getElem?_cons_zero, List.getElem?_cons_succ] at y0 y1 y2 y3 y4 y5 y6 y7 y8
  have fy0 := Lt.free 0; have fy1 := Lt.free 1; have fy2 := Lt.free 2; have fy3 := Lt.free 3; have fy4 := Lt.free 4; have fy5 := Lt.free 5; have fy6 := Lt.free 6; have fy7 := Lt.free 7; have fy8 := Lt.free 8
  have hfin : PgPost w p Q (.returned (.tuple #[.slice At nt ct, .int .i64 0])) (putP w6 p PW.zero nilS) := by
   rw [HX.out]
   exact ⟨At, nt, ct, hnt, rfl, putP_owns (owns_mono ot b1.size) (owns_ne ot Lt (by decide)), putP_loc Lt, putP_keep K6⟩
  have HFIN := Lib.hid hfin
  clear Lt ot hnt K6 hfin b1
  go_wp2
  go_ret2
  exact HFIN.out
end Go.Proofs.YtnieminnnkbneaaGreat
