/- Walks of treadleref4: Seal, number, Next. -/
import Derived.Test.YtnieminnnkbneaaGreatMa
import Derived.Test.YtnieminnnkbneaaGreatPgr
import Derived.Deep.RegionHeld3
namespace Go.Proofs.YtnieminnnkbneaaGreat
open Go.RowKit
set_option linter.unusedVariables false

theorem i64of (x : Nat) (h : x < 4294967296) : (BitVec.ofInt 64 (x : Int)).toNat = x := by rw [BitVec.toNat_ofInt]; omega
theorem xor_i64 (a b : Nat) (ha : a < 4294967296) (hb : b < 4294967296) : bits BinOp.xor IntKind.i64 (a : Int) (b : Int) = ((a ^^^ b : Nat) : Int) := by
 show IntKind.i64.wrap (((BitVec.ofInt 64 (a : Int) ^^^ BitVec.ofInt 64 (b : Int)).toNat : Nat) : Int) = _
 rw [BitVec.toNat_xor, i64of a ha, i64of b hb, IntKind.wrap_i64]
 have := xor_lt32 a b ha hb
 omega
theorem xorp_i64 (s : Nat) (h : s < 4294967296) : bits BinOp.xor IntKind.i64 ((s : Int) / 2) 2197175160 = ((s / 2 ^^^ 2197175160 : Nat) : Int) :=
 xor_i64 (s / 2) 2197175160 (by omega) (by decide)
theorem xor_ones (s : Nat) (h : s < 4294967296) : s ^^^ 4294967295 = 4294967295 - s := by
 have h1 := BitVec.xor_allOnes (x := BitVec.ofNat 32 s)
 have h2 := congrArg BitVec.toNat h1
 rw [BitVec.toNat_xor, BitVec.toNat_not, BitVec.toNat_allOnes, BitVec.toNat_ofNat, Nat.mod_eq_of_lt (by omega)] at h2
 omega
theorem not_i64 (s : Nat) (h : s < 4294967296) : bits BinOp.xor IntKind.i64 (s : Int) 4294967295 = ((4294967295 - s : Nat) : Int) := by
 rw [show (4294967295 : Int) = ((4294967295 : Nat) : Int) from rfl, xor_i64 s 4294967295 h (by decide), xor_ones s h]

set_option maxHeartbeats 1000000 in
theorem rstep_any (s : Nat) (hs : s < 4294967296) (w : World) :
  Calls Tryz.prog 124 #[.int .i64 s] w fun e w' => e = .returned (.int .i64 (half (half s) : Nat)) ∧ w' = w := by
 go_enter Tryz.func124, Tryz.ntmps124
 go_wp2
 go_loopw [0, 3] (fun s0 j wr => ∃ m : Nat, m ≤ 8 ∧ j = .int .i64 m ∧ s0 = .int .i64 (stepI m s : Nat) ∧ wr = w) (fun _ j _ => 8 - (intOf j).toNat)
 case atStart => exact ⟨0, by omega, rfl, rfl, rfl⟩
 case round =>
  obtain ⟨wj, hwj⟩ : ∃ wj, wj = wr := ⟨_, rfl⟩
  obtain ⟨m, hm, rfl, rfl, rfl⟩ := hrel
  obtain ⟨S, hS⟩ : ∃ S, S = stepI m s := ⟨_, rfl⟩
  have hSl : S < 4294967296 := by rw [hS]; exact stepI_lt m s hs
  have HS := Lib.hid hS
  rw [← hS]
  clear hS
  by_cases hm8 : m < 8
  ·have hm1 : (m : Int) < 8 := by omega
   by_cases ho : S % 2 = 1
   ·have em : Int.tmod (S : Int) 2 = 1 := by rw [show Int.tmod (S : Int) 2 = ((S % 2 : Nat) : Int) from rfl, ho]; rfl
    have ex := xorp_i64 S hSl
    have es := stepN_odd S ho
    obtain ⟨X, hX⟩ : ∃ X, X = (S / 2 ^^^ 2197175160) := ⟨_, rfl⟩
    rw [← hX] at ex es
    have HES := Lib.hid es
    clear hX es ho
    go_wp2
    go_roundw
    case rel => exact ⟨m + 1, by omega, by go_num, by rw [stepI, ← HS.out, HES.out], trivial⟩
    case measure => simp [intOf]; omega
   ·have he : S % 2 = 0 := by omega
    have em : Int.tmod (S : Int) 2 = 0 := by rw [show Int.tmod (S : Int) 2 = ((S % 2 : Nat) : Int) from rfl, he]; rfl
    have HES := Lib.hid (stepN_even S he)
    clear he ho
    go_wp2
    go_roundw
    case rel => exact ⟨m + 1, by omega, by go_num, by rw [stepI, ← HS.out, HES.out]; rfl, trivial⟩
    case measure => simp [intOf]; omega
  ·have hm1 : ¬ (m : Int) < 8 := by omega
   have HST : Hid (S = half (half s)) := Lib.hid (by rw [HS.out, show m = 8 by omega, half_eq, half_eq]; rfl)
   go_wp2
   go_ret
   rw [HST.out]
   exact ⟨rfl, rfl⟩

theorem i64u32 (s : Nat) (h : s < 4294967296) : IntKind.i64.wrap (s : Int) = (s : Int) := by rw [IntKind.wrap_i64]; omega

set_option maxHeartbeats 1000000 in
theorem rupdate_any (s : Nat) (hs : s < 4294967296) (xs : Bs) (A : Option Addr) (n c : Nat) (hn : n = xs.length) (hln : n ≤ 140737488355328) (w : World) (hr : Row w A (cellsB xs)) :
  Calls Tryz.prog 104 #[.int .u32 s, .slice A n c] w fun e w' => e = .returned (.int .u32 (crcUpd s xs : Nat)) ∧ w' = w := by
 have HR := Lib.hid hr
 have HN := Lib.hid hn
 clear hr hn
 obtain ⟨res, hres⟩ : ∃ res, res = crcUpd s xs := ⟨_, rfl⟩
 rw [← hres]
 have HRES := Lib.hid hres
 have hno := not_i64 s hs
 have hw1 := i64u32 s hs
 clear hres
 go_enter Tryz.func104, Tryz.ntmps104
 go_wp2
 go_loopw [5, 6] (fun s6 i wr => ∃ k : Nat, k ≤ n ∧ i = .int .i64 k ∧ s6 = .int .i64 (crcGo (4294967295 - s) (xs.take k) : Nat) ∧ wr = w) (fun _ i _ => n - (intOf i).toNat)
 case atStart => exact ⟨0, by omega, rfl, rfl, rfl⟩
 case round =>
  obtain ⟨wi, hwi⟩ : ∃ wi, wi = wr := ⟨_, rfl⟩
  obtain ⟨k, hk, rfl, rfl, rfl⟩ := hrel
  obtain ⟨S, hS⟩ : ∃ S, S = crcGo (4294967295 - s) (xs.take k) := ⟨_, rfl⟩
  have hSl : S < 4294967296 := by rw [hS]; exact crcGo_lt _ _ (by omega)
  have HS := Lib.hid hS
  rw [← hS]
  clear hS
  by_cases hkn : k < n
  ·have hkx : k < xs.length := by rw [← HN.out]; exact hkn
   obtain ⟨b, off, rfl, hc⟩ := HR.out.cellB (by omega)
   have x0 := hc k hkx
   have htk := crcGo_take (4294967295 - s) xs k hkx
   rw [← HS.out] at htk
   generalize xs[k] = bx at *
   have hkn' : (k : Int) < (n : Int) := by omega
   have hub : IntKind.i64.wrap (bx.toNat : Int) = (bx.toNat : Int) := by rw [IntKind.wrap_i64]; have := bx.toNat_lt; omega
   have hxr := xor_i64 S bx.toNat hSl (by have := bx.toNat_lt; omega)
   have hxl := xor_lt32 S bx.toNat hSl (by have := bx.toNat_lt; omega)
   have hcall := rstep_any _ hxl wr
   obtain ⟨Z, hZ⟩ : ∃ Z, Z = half (half (S ^^^ bx.toNat)) := ⟨_, rfl⟩
   rw [← hZ] at hcall
   rw [show crcStep S bx = Z by rw [hZ]; rfl] at htk
   have HT := Lib.hid htk
   generalize S ^^^ bx.toNat = Y at *
   have HC := Lib.hid hcall
   clear hc htk hcall hZ hxl hno hw1
   go_wp2_with (go_at_call 124; refine HC.out.mono ?_; rintro e w2 ⟨rfl, rfl⟩)
   go_roundw
   case rel => exact ⟨k + 1, by omega, by go_num, by rw [HT.out], trivial⟩
   case measure => simp [intOf]; omega
  ·have hkn' : ¬ (k : Int) < (n : Int) := by omega
   have hnot := not_i64 S hSl
   have hw2 := u32wrap (4294967295 - S) (by omega)
   have hres : crcUpd s xs = 4294967295 - S := by
    rw [HS.out, List.take_of_length_le (by rw [← HN.out]; omega)]
    rfl
   rw [← HRES.out] at hres
   rw [← hres] at hnot hw2
   clear hres hno hw1
   go_wp2
   go_ret
   exact ⟨ret_int rfl, rfl⟩

theorem rof_any (xs : Bs) (A : Option Addr) (n c : Nat) (hn : n = xs.length) (hln : n ≤ 140737488355328) (w : World) (hr : Row w A (cellsB xs)) :
  Calls Tryz.prog 105 #[.slice A n c] w fun e w' => e = .returned (.int .u32 (crcUpd 0 xs : Nat)) ∧ w' = w := by
 have hU := rupdate_any 0 (by decide) xs A n c hn hln w hr
 rw [show ((0 : Nat) : Int) = 0 from rfl] at hU
 obtain ⟨res, hres⟩ : ∃ res, res = crcUpd 0 xs := ⟨_, rfl⟩
 rw [← hres] at hU ⊢
 clear hres hr hn
 go_enter Tryz.func105, Tryz.ntmps105
 go_wp2_with (go_at_call 104; refine hU.mono ?_; rintro e w1 ⟨rfl, rfl⟩)
 go_ret
 exact ⟨rfl, rfl⟩

/-- The sum of a length and a body. -/
def sumN (la xs : Bs) : Nat := crcUpd (crcUpd 0 la) xs
theorem sumN_lt (la xs : Bs) : sumN la xs < 4294967296 := crcUpd_lt _ _
theorem rsum_any (la xs : Bs) (A B : Option Addr) (n m ca cb : Nat) (hn : n = la.length) (hm : m = xs.length) (hln : n ≤ 140737488355328) (hlm : m ≤ 140737488355328) (w : World) (ha : Row w A (cellsB la)) (hb : Row w B (cellsB xs)) :
  Calls Tryz.prog 63 #[.slice A n ca, .slice B m cb] w fun e w' => e = .returned (.int .i64 (sumN la xs : Nat)) ∧ w' = w := by
 have hO := rof_any la A n ca hn hln w ha
 have hU := rupdate_any (crcUpd 0 la) (crcUpd_lt _ _) xs B m cb hm hlm w hb
 have hw := i64u32 _ (crcUpd_lt (crcUpd 0 la) xs)
 unfold sumN
 obtain ⟨r2, hr2⟩ : ∃ r2, r2 = crcUpd (crcUpd 0 la) xs := ⟨_, rfl⟩
 rw [← hr2] at hU hw ⊢
 clear hr2
 obtain ⟨r1, hr1⟩ : ∃ r1, r1 = crcUpd 0 la := ⟨_, rfl⟩
 rw [← hr1] at hU hO
 clear hr1 hn hm ha hb
 go_enter Tryz.func63, Tryz.ntmps63
 go_wp2_with (first | (go_at_call 105; refine hO.mono ?_; rintro e w1 ⟨rfl, rfl⟩) | (go_at_call 104; refine hU.mono ?_; rintro e w2 ⟨rfl, rfl⟩))
 go_ret
 exact ⟨rfl, rfl⟩
end Go.Proofs.YtnieminnnkbneaaGreat

namespace Go.Proofs.YtnieminnnkbneaaGreat
open Go.RowKit
set_option linter.unusedVariables false

theorem le4_cells (v : Nat) : #[Value.int .u8 ((v : Int) % 256), .int .u8 ((v : Int) / 256 % 256), .int .u8 ((v : Int) / 65536 % 256), .int .u8 ((v : Int) / 16777216 % 256)] = (cellsB (le4 v)).toArray := by
 have e1 : (v : Int) / 256 % 256 = ((v / 256 : Nat) : Int) % 256 := by omega
 have e2 : (v : Int) / 65536 % 256 = ((v / 65536 : Nat) : Int) % 256 := by omega
 have e3 : (v : Int) / 16777216 % 256 = ((v / 16777216 : Nat) : Int) % 256 := by omega
 rw [u8low v, e1, u8low (v / 256), e2, u8low (v / 65536), e3, u8low (v / 16777216)]
 rfl
theorem rlow_any (v : Nat) (hv : v < 4294967296) (w : World) :
  Calls Tryz.prog 115 #[.int .i64 v] w fun e w' => e = .returned (.slice (some ⟨w.heap.size, 0, none⟩) 4 4) ∧ w' = w.alloc (.cells (cellsB (le4 v)).toArray 5) := by
 rw [← le4_cells]
 go_enter Tryz.func115, Tryz.ntmps115
 go_wp2
 go_ret
 exact ⟨rfl, rfl⟩

/-- A row of its own is answered. -/
def OwnB (xs : Bs) (w : World) (e : Ending) (w' : World) : Prop :=
 ∃ A c, e = .returned (.slice A xs.length c) ∧ w'.ownsRow w.heap.size 5 1 (.slice A xs.length c) xs.length (cellsB xs) ∧ Below w.heap.size w w'

theorem rlowq_any (q v : Nat) (hq : q = 4) (hv : v < 4294967296) (w : World) :
  Calls Tryz.prog 115 #[.int .i64 v] w fun e w' => e = .returned (.slice (some ⟨w.heap.size, 0, none⟩) q q) ∧ w' = w.alloc (.cells (cellsB (le4 v)).toArray 5) := by
 subst hq; exact rlow_any v hv w

set_option maxRecDepth 100000 in
set_option maxHeartbeats 2000000 in
theorem rseal_any (xs : Bs) (A : Option Addr) (n c : Nat) (hn : n = xs.length) (hlen : n ≤ 90000000) (w : World) (hr : Row w A (cellsB xs)) (hz : A = none → n = 0) :
  Calls Tryz.prog 92 #[.slice A n c] w (OwnB (headB xs ++ xs) w) := by
 obtain ⟨q, hq⟩ : ∃ q : Nat, q = 4 := ⟨_, rfl⟩
 have hl1 := rlowq_any q n hq (by omega) w
 have b1 := (Below.refl w.heap.size w).alloc (Nat.le_refl _) (.cells (cellsB (le4 n)).toArray 5)
 have o1 := World.ownsRow_lit (base := w.heap.size) (e := 5) (size := 1) w (cellsB (le4 n)).toArray q (Nat.le_refl _) (by rw [hq]; decide) (by rw [hq]; rfl)
 rw [List.toList_toArray] at o1
 have r1 := Row.of_owns o1
 have hs := rsum_any (le4 n) xs (some ⟨w.heap.size, 0, none⟩) A q n q c (by rw [hq]; rfl) hn (by omega) (by omega) _ r1 (hr.of_below b1 (Nat.le_refl _))
 obtain ⟨w1, hw1⟩ : ∃ w1, w1 = w.alloc (.cells (cellsB (le4 n)).toArray 5) := ⟨_, rfl⟩
 rw [← hw1] at hl1 b1 o1 hs
 have hl2 := rlowq_any q (sumN (le4 n) xs) hq (sumN_lt _ _) w1
 have b2 := b1.alloc b1.size (.cells (cellsB (le4 (sumN (le4 n) xs))).toArray 5)
 have o2 := owns_mono' o1 ((Below.refl w1.heap.size w1).alloc (Nat.le_refl _) (.cells (cellsB (le4 (sumN (le4 n) xs))).toArray 5))
 have r2 : Row (w1.alloc (.cells (cellsB (le4 (sumN (le4 n) xs))).toArray 5)) (some ⟨w1.heap.size, 0, none⟩) (cellsB (le4 (sumN (le4 n) xs))) := Row.new w1 (cellsB (le4 (sumN (le4 n) xs))) 5
 have hsrc2 := r2.src (P := Tryz.prog) (size := 1) (n := q) (c := q) (tx := 33) Tryz.underlying33 (by rw [hq]; rfl) (cellsB_one _) (fun h => by cases h)
 have hsz2 : w1.heap.size ≤ (w1.alloc (.cells (cellsB (le4 (sumN (le4 n) xs))).toArray 5)).heap.size := by simp
 obtain ⟨w2, hw2⟩ : ∃ w2, w2 = w1.alloc (.cells (cellsB (le4 (sumN (le4 n) xs))).toArray 5) := ⟨_, rfl⟩
 rw [← hw2] at hl2 b2 o2 hsrc2 hsz2
 have HQ := Lib.hid hq
 have hq9 : q ≤ 9 := by omega
 have HR := Lib.hid hr
 have hH : headB xs = le4 n ++ le4 (sumN (le4 n) xs) := by rw [hn]; rfl
 obtain ⟨S, hS⟩ : ∃ S, S = sumN (le4 n) xs := ⟨_, rfl⟩
 rw [← hS] at hs hl2 hsrc2 hH
 have HH := Lib.hid hH
 have HN := Lib.hid hn
 have HS2 := Lib.hid hsrc2
 have hsz1 := b1.size
 clear hr hw1 hw2 r1 r2 hS hsrc2 hH hn o1 hq
 go_enter Tryz.func92, Tryz.ntmps92
 go_upto_region 3 with (first | (go_at_call 115; refine hl1.mono ?_; rintro e w1' ⟨he', hwe⟩; subst he'; subst hwe) | (go_at_call 63; refine hs.mono ?_; rintro e w2' ⟨he', hwe⟩; subst he'; subst hwe))
 go_upto_region 4 with (first | (go_at_call 115; refine hl2.mono ?_; rintro e w1' ⟨he', hwe⟩; subst he'; subst hwe) | (at_builtin; refine wpList_append_mine _ rfl _ _ 33 33 rfl 5 (.int .u8 0) 1 1 Tryz.underlying33 infoU8 rfl (by decide) (.slice (some ⟨w.heap.size, 0, none⟩) q q) q (cellsB (le4 n)) rfl (owns_base o2 (fun _ _ => Nat.zero_le _)) _ q (cellsB (le4 S)) rfl HS2.out (by unfold maxLen; omega) (by omega) ?_; intro A3 c3 w3 hown3 hg3 hb3 hx3; obtain ⟨o3, b3⟩ := own_next0 o2 hown3 hg3 hb3 b2.size b2; clear hx3 hg3 hb3 hown3))
 have hsrc := (HR.out.of_below b3 (Nat.le_refl _)).src (P := Tryz.prog) (size := 1) (n := n) (c := c) (tx := 33) Tryz.underlying33 (by rw [cellsB_length, HN.out]; omega) (cellsB_one xs) hz
 have HS3 := Lib.hid hsrc
 clear hsrc hl1 hl2 hs o2 b2 hz
 go_wp2_with (at_builtin; refine wpList_append_mine _ rfl _ _ 33 33 rfl 5 (.int .u8 0) 1 1 Tryz.underlying33 infoU8 rfl (by decide) (.slice A3 (q + q) c3) (q + q) (cellsB (le4 n) ++ cellsB (le4 S)) rfl (owns_base o3 (fun _ _ => Nat.zero_le _)) (.slice A n c) n (cellsB xs) rfl HS3.out (by unfold maxLen; omega) (by omega) ?_; intro A4 c4 w4 hown4 hg4 hb4 hx4; obtain ⟨o4, b4⟩ := own_next0 o3 hown4 hg4 hb4 b3.size b3; clear hx4 hg4 hb4 hown4)
 go_ret
 have hln : (headB xs ++ xs).length = q + q + n := by rw [List.length_append, headB_length, HN.out, HQ.out]
 refine ⟨A4, c4, ?_, ?_, b4⟩
 ·rw [hln]; rfl
 ·rw [hln, HH.out, cellsB_append, cellsB_append]; exact o4

set_option maxRecDepth 100000 in
set_option maxHeartbeats 2000000 in
theorem rnumber_any' (b off n cap : Nat) (hn : 4 ≤ n) (b0 b1 b2 b3 : UInt8) (w : World) (c0 : w.cell? ⟨b, off, none⟩ = some (u8v b0)) (c1 : w.cell? ⟨b, off + 1, none⟩ = some (u8v b1)) (c2 : w.cell? ⟨b, off + 2, none⟩ = some (u8v b2)) (c3 : w.cell? ⟨b, off + 3, none⟩ = some (u8v b3)) :
  Calls Tryz.prog 62 #[.slice (some ⟨b, off, none⟩) n cap] w fun e w' => e = .returned (.int .i64 (wordOf b0 b1 b2 b3 : Nat)) ∧ Below w.heap.size w w' := by
 unfold u8v at c0 c1 c2 c3
 have i0 : (0 : Int) < (n : Int) := by omega
 have i1 : (1 : Int) < (n : Int) := by omega
 have i2 : (2 : Int) < (n : Int) := by omega
 have i3 : (3 : Int) < (n : Int) := by omega
 have h0 := b0.toNat_lt; have h1 := b1.toNat_lt; have h2 := b2.toNat_lt; have h3 := b3.toNat_lt
 have hv : (b0.toNat : Int) + 256 * (b1.toNat : Int) + 65536 * (b2.toNat : Int) + 16777216 * (b3.toNat : Int) = ((wordOf b0 b1 b2 b3 : Nat) : Int) := by unfold wordOf; omega
 have hw := wordOf_lt b0 b1 b2 b3
 generalize wordOf b0 b1 b2 b3 = V at *
 generalize b0.toNat = x0 at *
 generalize b1.toNat = x1 at *
 generalize b2.toNat = x2 at *
 generalize b3.toNat = x3 at *
 have q0 : IntKind.i64.wrap (x0 : Int) = (x0 : Int) := by rw [IntKind.wrap_i64]; omega
 have q1 : IntKind.i64.wrap (x1 : Int) = (x1 : Int) := by rw [IntKind.wrap_i64]; omega
 have q2 : IntKind.i64.wrap (x2 : Int) = (x2 : Int) := by rw [IntKind.wrap_i64]; omega
 have q3 : IntKind.i64.wrap (x3 : Int) = (x3 : Int) := by rw [IntKind.wrap_i64]; omega
 have m1 : IntKind.i64.wrap (256 * (x1 : Int)) = 256 * (x1 : Int) := by rw [IntKind.wrap_i64]; omega
 have m2 : IntKind.i64.wrap (65536 * (x2 : Int)) = 65536 * (x2 : Int) := by rw [IntKind.wrap_i64]; omega
 have m3 : IntKind.i64.wrap (16777216 * (x3 : Int)) = 16777216 * (x3 : Int) := by rw [IntKind.wrap_i64]; omega
 have s1 : IntKind.i64.wrap ((x0 : Int) + 256 * (x1 : Int)) = (x0 : Int) + 256 * (x1 : Int) := by rw [IntKind.wrap_i64]; omega
 have s2 : IntKind.i64.wrap ((x0 : Int) + 256 * (x1 : Int) + 65536 * (x2 : Int)) = (x0 : Int) + 256 * (x1 : Int) + 65536 * (x2 : Int) := by rw [IntKind.wrap_i64]; omega
 have s3 : IntKind.i64.wrap ((x0 : Int) + 256 * (x1 : Int) + 65536 * (x2 : Int) + 16777216 * (x3 : Int)) = (x0 : Int) + 256 * (x1 : Int) + 65536 * (x2 : Int) + 16777216 * (x3 : Int) := by rw [IntKind.wrap_i64]; omega
 have HV := Lib.hid hv
 clear h0 h1 h2 h3 hv hw
 go_enter Tryz.func62, Tryz.ntmps62
 go_upto_region 1 with (fail)
 go_quiet (fail)
 go_wp2
 go_ret
 exact ⟨ret_int HV.out, (by first | exact (Below.refl _ _).drew | exact below_drewN (Below.refl _ _) _ | exact Below.refl _ _)⟩
end Go.Proofs.YtnieminnnkbneaaGreat
