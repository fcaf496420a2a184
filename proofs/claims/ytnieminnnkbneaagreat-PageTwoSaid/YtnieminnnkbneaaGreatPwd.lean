/- Walks of page.Writer: End; a nil Writer. -/
import Derived.Test.YtnieminnnkbneaaGreatPwg
namespace Go.Proofs.YtnieminnnkbneaaGreat
open Go.RowKit

def pwEndQ (x : PW) : (Bs × PW) × Int := if x.live = false then (([], x), 25) else (((pwHead x).1 ++ endFrame (pwHead x).2, PW.zero), 0)

theorem nilPage_any (A B : Option Addr) (n m ca cb : Nat) (w : World) :
    Calls Tryz.prog 15 #[.pointer none, .slice A n ca, .slice B m cb] w fun e w' => e = .returned (.tuple #[.slice none 0 0, .int .i64 1]) ∧ Below w.heap.size w w' := by
  go_enter Tryz.func15, Tryz.ntmps15
  go_wp2
  go_ret2
  exact ⟨rfl, (Below.refl w.heap.size w).alloc (Nat.le_refl _) _⟩
theorem nilEnd_any (w : World) :
    Calls Tryz.prog 16 #[.pointer none] w fun e w' => e = .returned (.tuple #[.slice none 0 0, .int .i64 1]) ∧ Below w.heap.size w w' := by
  go_enter Tryz.func16, Tryz.ntmps16
  go_wp2
  go_ret2
  exact ⟨rfl, (Below.refl w.heap.size w).alloc (Nat.le_refl _) _⟩

set_option maxHeartbeats 4000000 in
theorem pend_any (p : Nat) (x : PW) (w : World) (L : Loc w p (x.cells nilS) 56) (hn1 : x.number ≤ 281474976710655) (hn2 : x.mark ≤ 281474976710655) (hf : x.frames ≤ 281474976710000) (hpr : x.procs ≤ 281474976710000) (hen : x.entries ≤ 281474976710000) :
    Calls Tryz.prog 16 #[.pointer (some ⟨p, 0, none⟩)] w (PgPost w p (pwEndQ x)) := by
  have hp := L.lt
  have HL := Lib.hid L
  obtain ⟨Q, hQ⟩ : ∃ Q, Q = pwEndQ x := ⟨_, rfl⟩
  rw [← hQ]
  have L1 := L.alloc (.cells #[.pointer (some ⟨p, 0, none⟩)] 24)
  have b1 := (Below.refl w.heap.size w).alloc (Nat.le_refl _) (.cells #[.pointer (some ⟨p, 0, none⟩)] 24)
  have C1 := Loc.new w #[.pointer (some ⟨p, 0, none⟩)] 24
  unfold pwEndQ at hQ
  have k0 := L1.cell 0
  simp only [PW.cells, List.getElem?_toArray, List.getElem?_cons_zero] at k0
  have HQ := Lib.hid hQ
  clear L hQ
  cases hlv : x.live with
  | false =>
    have HX : Hid (Q = (([], x), 25)) := Lib.hid (by rw [HQ.out, if_pos hlv])
    rw [hlv] at k0
    clear hlv HQ L1 C1
    go_enter Tryz.func16, Tryz.ntmps16
    go_wp2
    go_ret2
    exact .no HX.out HL.out b1
  | true =>
    have HX : Hid (Q = (((pwHead x).1 ++ endFrame (pwHead x).2, PW.zero), 0)) := Lib.hid (by rw [HQ.out, if_neg (by simp [hlv])])
    rw [hlv] at k0
    have HPB := Lib.hid (pwHead_b x)
    have hh := phead_any p x nilS _ L1 hn1 hn2
    obtain ⟨xh, hxh⟩ : ∃ xh, xh = (pwHead x).2 := ⟨_, rfl⟩
    obtain ⟨yh, hyh⟩ : ∃ yh, yh = (pwHead x).1 := ⟨_, rfl⟩
    rw [← hxh, ← hyh] at hh HPB HX
    have HH := Lib.hid hh
    have HC1 := Lib.hid C1
    have HB1 := Lib.hid b1
    have hne : w.heap.size ≠ p := by omega
    clear hlv HQ hh hxh hyh C1 L1
    go_enter Tryz.func16, Tryz.ntmps16
    go_upto_region 6 with (go_at_call 34; refine HH.out.mono ?_; rintro e w3 ⟨rfl, S3⟩; have C3 := S3.loc HC1.out hne; have c3 := C3.cell 0; simp only [List.getElem?_toArray, List.getElem?_cons_zero] at c3)
    have S3' := S3
    obtain ⟨A, n, c, hn, L3, o3, K3⟩ := S3'
    have hb := HPB.out
    have e1 := encNumber_le (xh.procs : Int)
    have e2 := encNumber_le (xh.entries : Int)
    have e3 := encNumber_le (xh.frames : Int)
    have hM := more_end p w.heap.size xh (.slice A n c) w3 ((4 : UInt8) :: encNumber xh.frames) (by simp; omega) L3 c3 (by omega) (by omega)
    have hF := frame_end p xh 4 w.heap.size (encNumber xh.procs ++ encNumber xh.entries) yh A n c _ w3 L3 o3 hM (by omega) (by rw [List.length_append]; omega) (by omega)
    rw [show (((4 : UInt8).toNat : Nat) : Int) = 4 from rfl] at hF
    have HFR := Lib.hid hF
    have HK3 := Lib.hid K3
    clear hM hF hb e1 e2 e3 hn L3 o3 K3 k0 S3
    go_upto_region 7 with (go_at_call 37; refine HFR.out.mono ?_; rintro e w6 ⟨rfl, hfr⟩)
    have S6 := hfr.st HK3.out
    have C6 := S6.loc HC1.out hne
    have c6 := C6.cell 0
    simp only [List.getElem?_toArray, List.getElem?_cons_zero] at c6
    obtain ⟨x6, hx6⟩ : ∃ x6, x6 = ({ xh with frames := xh.frames + 1 } : PW) := ⟨_, rfl⟩
    rw [← hx6] at S6
    clear c3 C3 hfr C6 hx6
    have K6 : Keep w.heap.size (· = p) w w6 := by
      obtain ⟨_, _, _, _, _, _, K⟩ := S6
      exact (Keep.of_below HB1.out (· = p)).step K b1.size (fun _ _ h => h)
    obtain ⟨At, nt, ct, hnt, Lt, ot, _⟩ := S6
    have y0 := Lt.cell 0; have y1 := Lt.cell 1; have y2 := Lt.cell 2; have y3 := Lt.cell 3; have y4 := Lt.cell 4; have y5 := Lt.cell 5; have y6 := Lt.cell 6; have y7 := Lt.cell 7; have y8 := Lt.cell 8
    simp only [PW.cells, List.getElem?_toArray, List.getElem?_cons_zero, List.getElem?_cons_succ] at y0 y1 y2 y3 y4 y5 y6 y7 y8
    have fy0 := Lt.free 0; have fy1 := Lt.free 1; have fy2 := Lt.free 2; have fy3 := Lt.free 3; have fy4 := Lt.free 4; have fy5 := Lt.free 5; have fy6 := Lt.free 6; have fy7 := Lt.free 7; have fy8 := Lt.free 8
    have hfin : PgPost w p Q (.returned (.tuple #[.slice At nt ct, .int .i64 0])) (putP w6 p PW.zero nilS) := by
      rw [HX.out]
      exact ⟨At, nt, ct, hnt, rfl, putP_owns (owns_mono ot b1.size) (owns_ne ot Lt (by decide)), putP_loc Lt, putP_keep K6⟩
    have HFIN := Lib.hid hfin
    clear Lt ot hnt K6 hfin b1
    go_wp2
    go_ret2
    exact HFIN.out
end Go.Proofs.YtnieminnnkbneaaGreat
