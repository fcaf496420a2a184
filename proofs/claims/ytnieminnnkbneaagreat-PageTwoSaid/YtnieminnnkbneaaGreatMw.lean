/- Walk of treadleref14's Page. -/
import Derived.Test.YtnieminnnkbneaaGreatNxt
import Derived.Test.YtnieminnnkbneaaGreatFrh
import Derived.Test.YtnieminnnkbneaaGreatPgr
import Derived.Deep.RegionHeld3
import Derived.Test.YtnieminnnkbneaaGreatRefF
import Derived.Test.YtnieminnnkbneaaGreatPwd
import Derived.Test.YtnieminnnkbneaaGreatMlk
namespace Go.Proofs.YtnieminnnkbneaaGreat
open Go.RowKit
set_option linter.unusedVariables false

theorem i64of (x : Nat) (h : x < 4294967296) : (BitVec.ofInt 64 (x : Int)).toNat = x := by rw [BitVec.toNat_ofInt]; omega
theorem xor_i64 (a b : Nat) (ha : a < 4294967296) (hb : b < 4294967296) : bits BinOp.xor IntKind.i64 (a : Int) (b : Int) = ((a ^^^ b : Nat) : Int) := by
  show IntKind.i64.wrap (((BitVec.ofInt 64 (a : Int) ^^^ BitVec.ofInt 64 (b : Int)).toNat : Nat) : Int) = _
  rw [BitVec.toNat_xor, i64of a ha, i64of b hb, IntKind.wrap_i64]
  have := xor_lt32 a b ha hb
  omega
theorem xorp_i64 (s : Nat) (h : s < 4294967296) : bits BinOp.xor IntKind.i64 ((s : Int) / 2) 2197175160 = ((s / 2 ^^^ 2197175160 : Nat) : Int) :=
  xor_i64 (s / 2) 2197175160 (by omega) (by decide)
theorem xor_ones (s : Nat) (h : s < 4294967296) : s ^^^ 4294967295 = 4294967295 - s := by
  have h1 := BitVec.xor_allOnes (x := BitVec.ofNat 32 s)
  have h2 := congrArg BitVec.toNat h1
  rw [BitVec.toNat_xor, BitVec.toNat_not, BitVec.toNat_allOnes, BitVec.toNat_ofNat, Nat.mod_eq_of_lt (by omega)] at h2
  omega
theorem not_i64 (s : Nat) (h : s < 4294967296) : bits BinOp.xor IntKind.i64 (s : Int) 4294967295 = ((4294967295 - s : Nat) : Int) := by
  rw [show (4294967295 : Int) = ((4294967295 : Nat) : Int) from rfl, xor_i64 s 4294967295 h (by decide), xor_ones s h]

set_option maxHeartbeats 1000000 in
theorem rstep_any (s : Nat) (hs : s < 4294967296) (w : World) :
    Calls Tryz.prog 124 #[.int .i64 s] w fun e w' => e = .returned (.int .i64 (half (half s) : Nat)) ∧ w' = w := by
  go_enter Tryz.func124, Tryz.ntmps124
  go_wp2
  go_loopw [0, 3] (fun s0 j wr => ∃ m : Nat, m ≤ 8 ∧ j = .int .i64 m ∧ s0 = .int .i64 (stepI m s : Nat) ∧ wr = w) (fun _ j _ => 8 - (intOf j).toNat)
  case atStart => exact ⟨0, by omega, rfl, rfl, rfl⟩
  case round =>
    obtain ⟨wj, hwj⟩ : ∃ wj, wj = wr := ⟨_, rfl⟩
    obtain ⟨m, hm, rfl, rfl, rfl⟩ := hrel
    obtain ⟨S, hS⟩ : ∃ S, S = stepI m s := ⟨_, rfl⟩
    have hSl : S < 4294967296 := by rw [hS]; exact stepI_lt m s hs
    have HS := Lib.hid hS
    rw [← hS]
    clear hS
    by_cases hm8 : m < 8
    · have hm1 : (m : Int) < 8 := by omega
      by_cases ho : S % 2 = 1
      · have em : Int.tmod (S : Int) 2 = 1 := by rw [show Int.tmod (S : Int) 2 = ((S % 2 : Nat) : Int) from rfl, ho]; rfl
        have ex := xorp_i64 S hSl
        have es := stepN_odd S ho
        obtain ⟨X, hX⟩ : ∃ X, X = (S / 2 ^^^ 2197175160) := ⟨_, rfl⟩
        rw [← hX] at ex es
        have HES := Lib.hid es
        clear hX es ho
        go_wp2
        go_roundw
        case rel => exact ⟨m + 1, by omega, by go_num, by rw [stepI, ← HS.out, HES.out], trivial⟩
        case measure => simp [intOf]; omega
      · have he : S % 2 = 0 := by omega
        have em : Int.tmod (S : Int) 2 = 0 := by rw [show Int.tmod (S : Int) 2 = ((S % 2 : Nat) : Int) from rfl, he]; rfl
        have HES := Lib.hid (stepN_even S he)
        clear he ho
        go_wp2
        go_roundw
        case rel => exact ⟨m + 1, by omega, by go_num, by rw [stepI, ← HS.out, HES.out]; rfl, trivial⟩
        case measure => simp [intOf]; omega
    · have hm1 : ¬ (m : Int) < 8 := by omega
      have HST : Hid (S = half (half s)) := Lib.hid (by rw [HS.out, show m = 8 by omega, half_eq, half_eq]; rfl)
      go_wp2
      go_ret
      rw [HST.out]
      exact ⟨rfl, rfl⟩

theorem i64u32 (s : Nat) (h : s < 4294967296) : IntKind.i64.wrap (s : Int) = (s : Int) := by rw [IntKind.wrap_i64]; omega

set_option maxHeartbeats 1000000 in
theorem rupdate_any (s : Nat) (hs : s < 4294967296) (xs : Bs) (A : Option Addr) (n c : Nat) (hn : n = xs.length) (hln : n ≤ 140737488355328) (w : World) (hr : Row w A (cellsB xs)) :
    Calls Tryz.prog 104 #[.int .u32 s, .slice A n c] w fun e w' => e = .returned (.int .u32 (crcUpd s xs : Nat)) ∧ w' = w := by
  have HR := Lib.hid hr
  have HN := Lib.hid hn
  clear hr hn
  obtain ⟨res, hres⟩ : ∃ res, res = crcUpd s xs := ⟨_, rfl⟩
  rw [← hres]
  have HRES := Lib.hid hres
  have hno := not_i64 s hs
  have hw1 := i64u32 s hs
  clear hres
  go_enter Tryz.func104, Tryz.ntmps104
  go_wp2
  go_loopw [5, 6] (fun s6 i wr => ∃ k : Nat, k ≤ n ∧ i = .int .i64 k ∧ s6 = .int .i64 (crcGo (4294967295 - s) (xs.take k) : Nat) ∧ wr = w) (fun _ i _ => n - (intOf i).toNat)
  case atStart => exact ⟨0, by omega, rfl, rfl, rfl⟩
  case round =>
    obtain ⟨wi, hwi⟩ : ∃ wi, wi = wr := ⟨_, rfl⟩
    obtain ⟨k, hk, rfl, rfl, rfl⟩ := hrel
    obtain ⟨S, hS⟩ : ∃ S, S = crcGo (4294967295 - s) (xs.take k) := ⟨_, rfl⟩
    have hSl : S < 4294967296 := by rw [hS]; exact crcGo_lt _ _ (by omega)
    have HS := Lib.hid hS
    rw [← hS]
    clear hS
    by_cases hkn : k < n
    · have hkx : k < xs.length := by rw [← HN.out]; exact hkn
      obtain ⟨b, off, rfl, hc⟩ := HR.out.cellB (by omega)
      have x0 := hc k hkx
      have htk := crcGo_take (4294967295 - s) xs k hkx
      rw [← HS.out] at htk
      generalize xs[k] = bx at *
      have hkn' : (k : Int) < (n : Int) := by omega
      have hub : IntKind.i64.wrap (bx.toNat : Int) = (bx.toNat : Int) := by rw [IntKind.wrap_i64]; have := bx.toNat_lt; omega
      have hxr := xor_i64 S bx.toNat hSl (by have := bx.toNat_lt; omega)
      have hxl := xor_lt32 S bx.toNat hSl (by have := bx.toNat_lt; omega)
      have hcall := rstep_any _ hxl wr
      obtain ⟨Z, hZ⟩ : ∃ Z, Z = half (half (S ^^^ bx.toNat)) := ⟨_, rfl⟩
      rw [← hZ] at hcall
      rw [show crcStep S bx = Z by rw [hZ]; rfl] at htk
      have HT := Lib.hid htk
      generalize S ^^^ bx.toNat = Y at *
      have HC := Lib.hid hcall
      clear hc htk hcall hZ hxl hno hw1
      go_wp2_with (go_at_call 124; refine HC.out.mono ?_; rintro e w2 ⟨rfl, rfl⟩)
      go_roundw
      case rel => exact ⟨k + 1, by omega, by go_num, by rw [HT.out], trivial⟩
      case measure => simp [intOf]; omega
    · have hkn' : ¬ (k : Int) < (n : Int) := by omega
      have hnot := not_i64 S hSl
      have hw2 := u32wrap (4294967295 - S) (by omega)
      have hres : crcUpd s xs = 4294967295 - S := by
        rw [HS.out, List.take_of_length_le (by rw [← HN.out]; omega)]
        rfl
      rw [← HRES.out] at hres
      rw [← hres] at hnot hw2
      clear hres hno hw1
      go_wp2
      go_ret
      exact ⟨ret_int rfl, rfl⟩

theorem rof_any (xs : Bs) (A : Option Addr) (n c : Nat) (hn : n = xs.length) (hln : n ≤ 140737488355328) (w : World) (hr : Row w A (cellsB xs)) :
    Calls Tryz.prog 105 #[.slice A n c] w fun e w' => e = .returned (.int .u32 (crcUpd 0 xs : Nat)) ∧ w' = w := by
  have hU := rupdate_any 0 (by decide) xs A n c hn hln w hr
  rw [show ((0 : Nat) : Int) = 0 from rfl] at hU
  obtain ⟨res, hres⟩ : ∃ res, res = crcUpd 0 xs := ⟨_, rfl⟩
  rw [← hres] at hU ⊢
  clear hres hr hn
  go_enter Tryz.func105, Tryz.ntmps105
  go_wp2_with (go_at_call 104; refine hU.mono ?_; rintro e w1 ⟨rfl, rfl⟩)
  go_ret
  exact ⟨rfl, rfl⟩

/-- The sum of a length and a body. -/
def sumN (la xs : Bs) : Nat := crcUpd (crcUpd 0 la) xs
theorem sumN_lt (la xs : Bs) : sumN la xs < 4294967296 := crcUpd_lt _ _
theorem rsum_any (la xs : Bs) (A B : Option Addr) (n m ca cb : Nat) (hn : n = la.length) (hm : m = xs.length) (hln : n ≤ 140737488355328) (hlm : m ≤ 140737488355328) (w : World) (ha : Row w A (cellsB la)) (hb : Row w B (cellsB xs)) :
    Calls Tryz.prog 63 #[.slice A n ca, .slice B m cb] w fun e w' => e = .returned (.int .i64 (sumN la xs : Nat)) ∧ w' = w := by
  have hO := rof_any la A n ca hn hln w ha
  have hU := rupdate_any (crcUpd 0 la) (crcUpd_lt _ _) xs B m cb hm hlm w hb
  have hw := i64u32 _ (crcUpd_lt (crcUpd 0 la) xs)
  unfold sumN
  obtain ⟨r2, hr2⟩ : ∃ r2, r2 = crcUpd (crcUpd 0 la) xs := ⟨_, rfl⟩
  rw [← hr2] at hU hw ⊢
  clear hr2
  obtain ⟨r1, hr1⟩ : ∃ r1, r1 = crcUpd 0 la := ⟨_, rfl⟩
  rw [← hr1] at hU hO
  clear hr1 hn hm ha hb
  go_enter Tryz.func63, Tryz.ntmps63
  go_wp2_with (first | (go_at_call 105; refine hO.mono ?_; rintro e w1 ⟨rfl, rfl⟩) | (go_at_call 104; refine hU.mono ?_; rintro e w2 ⟨rfl, rfl⟩))
  go_ret
  exact ⟨rfl, rfl⟩
end Go.Proofs.YtnieminnnkbneaaGreat

namespace Go.Proofs.YtnieminnnkbneaaGreat
open Go.RowKit
set_option linter.unusedVariables false

theorem le4_cells (v : Nat) : #[Value.int .u8 ((v : Int) % 256), .int .u8 ((v : Int) / 256 % 256), .int .u8 ((v : Int) / 65536 % 256), .int .u8 ((v : Int) / 16777216 % 256)] = (cellsB (le4 v)).toArray := by
  have e1 : (v : Int) / 256 % 256 = ((v / 256 : Nat) : Int) % 256 := by omega
  have e2 : (v : Int) / 65536 % 256 = ((v / 65536 : Nat) : Int) % 256 := by omega
  have e3 : (v : Int) / 16777216 % 256 = ((v / 16777216 : Nat) : Int) % 256 := by omega
  rw [u8low v, e1, u8low (v / 256), e2, u8low (v / 65536), e3, u8low (v / 16777216)]
  rfl
theorem rlow_any (v : Nat) (hv : v < 4294967296) (w : World) :
    Calls Tryz.prog 115 #[.int .i64 v] w fun e w' => e = .returned (.slice (some ⟨w.heap.size, 0, none⟩) 4 4) ∧ w' = w.alloc (.cells (cellsB (le4 v)).toArray 5) := by
  rw [← le4_cells]
  go_enter Tryz.func115, Tryz.ntmps115
  go_wp2
  go_ret
  exact ⟨rfl, rfl⟩

/-- A row of its own is answered. -/
def OwnB (xs : Bs) (w : World) (e : Ending) (w' : World) : Prop :=
  ∃ A c, e = .returned (.slice A xs.length c) ∧ w'.ownsRow w.heap.size 5 1 (.slice A xs.length c) xs.length (cellsB xs) ∧ Below w.heap.size w w'

theorem rlowq_any (q v : Nat) (hq : q = 4) (hv : v < 4294967296) (w : World) :
    Calls Tryz.prog 115 #[.int .i64 v] w fun e w' => e = .returned (.slice (some ⟨w.heap.size, 0, none⟩) q q) ∧ w' = w.alloc (.cells (cellsB (le4 v)).toArray 5) := by
  subst hq; exact rlow_any v hv w

set_option maxRecDepth 100000 in
set_option maxHeartbeats 2000000 in
theorem rseal_any (xs : Bs) (A : Option Addr) (n c : Nat) (hn : n = xs.length) (hlen : n ≤ 90000000) (w : World) (hr : Row w A (cellsB xs)) (hz : A = none → n = 0) :
    Calls Tryz.prog 92 #[.slice A n c] w (OwnB (headB xs ++ xs) w) := by
  obtain ⟨q, hq⟩ : ∃ q : Nat, q = 4 := ⟨_, rfl⟩
  have hl1 := rlowq_any q n hq (by omega) w
  have b1 := (Below.refl w.heap.size w).alloc (Nat.le_refl _) (.cells (cellsB (le4 n)).toArray 5)
  have o1 := World.ownsRow_lit (base := w.heap.size) (e := 5) (size := 1) w (cellsB (le4 n)).toArray q (Nat.le_refl _) (by rw [hq]; decide) (by rw [hq]; rfl)
  rw [List.toList_toArray] at o1
  have r1 := Row.of_owns o1
  have hs := rsum_any (le4 n) xs (some ⟨w.heap.size, 0, none⟩) A q n q c (by rw [hq]; rfl) hn (by omega) (by omega) _ r1 (hr.of_below b1 (Nat.le_refl _))
  obtain ⟨w1, hw1⟩ : ∃ w1, w1 = w.alloc (.cells (cellsB (le4 n)).toArray 5) := ⟨_, rfl⟩
  rw [← hw1] at hl1 b1 o1 hs
  have hl2 := rlowq_any q (sumN (le4 n) xs) hq (sumN_lt _ _) w1
  have b2 := b1.alloc b1.size (.cells (cellsB (le4 (sumN (le4 n) xs))).toArray 5)
  have o2 := owns_mono' o1 ((Below.refl w1.heap.size w1).alloc (Nat.le_refl _) (.cells (cellsB (le4 (sumN (le4 n) xs))).toArray 5))
  have r2 : Row (w1.alloc (.cells (cellsB (le4 (sumN (le4 n) xs))).toArray 5)) (some ⟨w1.heap.size, 0, none⟩) (cellsB (le4 (sumN (le4 n) xs))) := Row.new w1 (cellsB (le4 (sumN (le4 n) xs))) 5
  have hsrc2 := r2.src (P := Tryz.prog) (size := 1) (n := q) (c := q) (tx := 33) Tryz.underlying33 (by rw [hq]; rfl) (cellsB_one _) (fun h => by cases h)
  have hsz2 : w1.heap.size ≤ (w1.alloc (.cells (cellsB (le4 (sumN (le4 n) xs))).toArray 5)).heap.size := by simp
  obtain ⟨w2, hw2⟩ : ∃ w2, w2 = w1.alloc (.cells (cellsB (le4 (sumN (le4 n) xs))).toArray 5) := ⟨_, rfl⟩
  rw [← hw2] at hl2 b2 o2 hsrc2 hsz2
  have HQ := Lib.hid hq
  have hq9 : q ≤ 9 := by omega
  have HR := Lib.hid hr
  have hH : headB xs = le4 n ++ le4 (sumN (le4 n) xs) := by rw [hn]; rfl
  obtain ⟨S, hS⟩ : ∃ S, S = sumN (le4 n) xs := ⟨_, rfl⟩
  rw [← hS] at hs hl2 hsrc2 hH
  have HH := Lib.hid hH
  have HN := Lib.hid hn
  have HS2 := Lib.hid hsrc2
  have hsz1 := b1.size
  clear hr hw1 hw2 r1 r2 hS hsrc2 hH hn o1 hq
  go_enter Tryz.func92, Tryz.ntmps92
  go_upto_region 3 with (first | (go_at_call 115; refine hl1.mono ?_; rintro e w1' ⟨he', hwe⟩; subst he'; subst hwe) | (go_at_call 63; refine hs.mono ?_; rintro e w2' ⟨he', hwe⟩; subst he'; subst hwe))
  go_upto_region 4 with (first | (go_at_call 115; refine hl2.mono ?_; rintro e w1' ⟨he', hwe⟩; subst he'; subst hwe) | (at_builtin; refine wpList_append_mine _ rfl _ _ 33 33 rfl 5 (.int .u8 0) 1 1 Tryz.underlying33 infoU8 rfl (by decide) (.slice (some ⟨w.heap.size, 0, none⟩) q q) q (cellsB (le4 n)) rfl (owns_base o2 (fun _ _ => Nat.zero_le _)) _ q (cellsB (le4 S)) rfl HS2.out (by unfold maxLen; omega) (by omega) ?_; intro A3 c3 w3 hown3 hg3 hb3 hx3; obtain ⟨o3, b3⟩ := own_next0 o2 hown3 hg3 hb3 b2.size b2; clear hx3 hg3 hb3 hown3))
  have hsrc := (HR.out.of_below b3 (Nat.le_refl _)).src (P := Tryz.prog) (size := 1) (n := n) (c := c) (tx := 33) Tryz.underlying33 (by rw [cellsB_length, HN.out]; omega) (cellsB_one xs) hz
  have HS3 := Lib.hid hsrc
  clear hsrc hl1 hl2 hs o2 b2 hz
  go_wp2_with (at_builtin; refine wpList_append_mine _ rfl _ _ 33 33 rfl 5 (.int .u8 0) 1 1 Tryz.underlying33 infoU8 rfl (by decide) (.slice A3 (q + q) c3) (q + q) (cellsB (le4 n) ++ cellsB (le4 S)) rfl (owns_base o3 (fun _ _ => Nat.zero_le _)) (.slice A n c) n (cellsB xs) rfl HS3.out (by unfold maxLen; omega) (by omega) ?_; intro A4 c4 w4 hown4 hg4 hb4 hx4; obtain ⟨o4, b4⟩ := own_next0 o3 hown4 hg4 hb4 b3.size b3; clear hx4 hg4 hb4 hown4)
  go_ret
  have hln : (headB xs ++ xs).length = q + q + n := by rw [List.length_append, headB_length, HN.out, HQ.out]
  refine ⟨A4, c4, ?_, ?_, b4⟩
  · rw [hln]; rfl
  · rw [hln, HH.out, cellsB_append, cellsB_append]; exact o4

set_option maxRecDepth 100000 in
set_option maxHeartbeats 2000000 in
theorem rnumber_any' (b off n cap : Nat) (hn : 4 ≤ n) (b0 b1 b2 b3 : UInt8) (w : World) (c0 : w.cell? ⟨b, off, none⟩ = some (u8v b0)) (c1 : w.cell? ⟨b, off + 1, none⟩ = some (u8v b1)) (c2 : w.cell? ⟨b, off + 2, none⟩ = some (u8v b2)) (c3 : w.cell? ⟨b, off + 3, none⟩ = some (u8v b3)) :
    Calls Tryz.prog 62 #[.slice (some ⟨b, off, none⟩) n cap] w fun e w' => e = .returned (.int .i64 (wordOf b0 b1 b2 b3 : Nat)) ∧ Below w.heap.size w w' := by
  unfold u8v at c0 c1 c2 c3
  have i0 : (0 : Int) < (n : Int) := by omega
  have i1 : (1 : Int) < (n : Int) := by omega
  have i2 : (2 : Int) < (n : Int) := by omega
  have i3 : (3 : Int) < (n : Int) := by omega
  have h0 := b0.toNat_lt; have h1 := b1.toNat_lt; have h2 := b2.toNat_lt; have h3 := b3.toNat_lt
  have hv : (b0.toNat : Int) + 256 * (b1.toNat : Int) + 65536 * (b2.toNat : Int) + 16777216 * (b3.toNat : Int) = ((wordOf b0 b1 b2 b3 : Nat) : Int) := by unfold wordOf; omega
  have hw := wordOf_lt b0 b1 b2 b3
  generalize wordOf b0 b1 b2 b3 = V at *
  generalize b0.toNat = x0 at *
  generalize b1.toNat = x1 at *
  generalize b2.toNat = x2 at *
  generalize b3.toNat = x3 at *
  have q0 : IntKind.i64.wrap (x0 : Int) = (x0 : Int) := by rw [IntKind.wrap_i64]; omega
  have q1 : IntKind.i64.wrap (x1 : Int) = (x1 : Int) := by rw [IntKind.wrap_i64]; omega
  have q2 : IntKind.i64.wrap (x2 : Int) = (x2 : Int) := by rw [IntKind.wrap_i64]; omega
  have q3 : IntKind.i64.wrap (x3 : Int) = (x3 : Int) := by rw [IntKind.wrap_i64]; omega
  have m1 : IntKind.i64.wrap (256 * (x1 : Int)) = 256 * (x1 : Int) := by rw [IntKind.wrap_i64]; omega
  have m2 : IntKind.i64.wrap (65536 * (x2 : Int)) = 65536 * (x2 : Int) := by rw [IntKind.wrap_i64]; omega
  have m3 : IntKind.i64.wrap (16777216 * (x3 : Int)) = 16777216 * (x3 : Int) := by rw [IntKind.wrap_i64]; omega
  have s1 : IntKind.i64.wrap ((x0 : Int) + 256 * (x1 : Int)) = (x0 : Int) + 256 * (x1 : Int) := by rw [IntKind.wrap_i64]; omega
  have s2 : IntKind.i64.wrap ((x0 : Int) + 256 * (x1 : Int) + 65536 * (x2 : Int)) = (x0 : Int) + 256 * (x1 : Int) + 65536 * (x2 : Int) := by rw [IntKind.wrap_i64]; omega
  have s3 : IntKind.i64.wrap ((x0 : Int) + 256 * (x1 : Int) + 65536 * (x2 : Int) + 16777216 * (x3 : Int)) = (x0 : Int) + 256 * (x1 : Int) + 65536 * (x2 : Int) + 16777216 * (x3 : Int) := by rw [IntKind.wrap_i64]; omega
  have HV := Lib.hid hv
  clear h0 h1 h2 h3 hv hw
  go_enter Tryz.func62, Tryz.ntmps62
  go_upto_region 1 with (fail)
  go_quiet (fail)
  go_wp2
  go_ret
  exact ⟨ret_int HV.out, (by first | exact (Below.refl _ _).drew | exact below_drewN (Below.refl _ _) _ | exact Below.refl _ _)⟩
end Go.Proofs.YtnieminnnkbneaaGreat


namespace Go.Proofs.YtnieminnnkbneaaGreat
open Go.RowKit
set_option linter.unusedVariables false

/-- The document's writer, by value. -/
def PW.val (x : PW) : Array Value := #[.int .i64 x.number, .int .i64 x.mark, .int .i64 x.frames, .int .i64 x.procs, .int .i64 x.entries, .string x.name, .string x.key, .bool x.live]

/-- A writer's value laid cell by cell. -/
def putV (w : World) (b : Nat) (x : PW) : World :=
  (((((((w.setCell ⟨b, 0, none⟩ (.int .i64 x.number)).setCell ⟨b, 1, none⟩ (.int .i64 x.mark)).setCell ⟨b, 2, none⟩ (.int .i64 x.frames)).setCell ⟨b, 3, none⟩ (.int .i64 x.procs)).setCell ⟨b, 4, none⟩ (.int .i64 x.entries)).setCell ⟨b, 5, none⟩ (.string x.name)).setCell ⟨b, 6, none⟩ (.string x.key)).setCell ⟨b, 7, none⟩ (.bool x.live)
theorem putV_loc {w : World} {b : Nat} {c0 c1 c2 c3 c4 c5 c6 c7 : Value} {t : TypeId} (h : Loc w b #[c0, c1, c2, c3, c4, c5, c6, c7] t) (x : PW) : Loc (putV w b x) b x.val t := by
  have L := (((((((h.set 0 (.int .i64 x.number)).set 1 (.int .i64 x.mark)).set 2 (.int .i64 x.frames)).set 3 (.int .i64 x.procs)).set 4 (.int .i64 x.entries)).set 5 (.string x.name)).set 6 (.string x.key)).set 7 (.bool x.live)
  simp only [List.setIfInBounds_toArray, List.set_cons_zero, List.set_cons_succ] at L
  exact L
theorem putV_other {w : World} {b b' : Nat} {c : Array Value} {t : TypeId} (h : Loc w b' c t) (hne : b' ≠ b) (x : PW) : Loc (putV w b x) b' c t :=
  (((((((h.other (a := ⟨b, 0, none⟩) hne _).other (a := ⟨b, 1, none⟩) hne _).other (a := ⟨b, 2, none⟩) hne _).other (a := ⟨b, 3, none⟩) hne _).other (a := ⟨b, 4, none⟩) hne _).other (a := ⟨b, 5, none⟩) hne _).other (a := ⟨b, 6, none⟩) hne _).other (a := ⟨b, 7, none⟩) hne _
theorem putV_below {B : Nat} {a w : World} {b : Nat} (h : Below B a w) (hb : B ≤ b) (x : PW) : Below B a (putV w b x) :=
  (((((((h.setCell (p := ⟨b, 0, none⟩) hb _).setCell (p := ⟨b, 1, none⟩) hb _).setCell (p := ⟨b, 2, none⟩) hb _).setCell (p := ⟨b, 3, none⟩) hb _).setCell (p := ⟨b, 4, none⟩) hb _).setCell (p := ⟨b, 5, none⟩) hb _).setCell (p := ⟨b, 6, none⟩) hb _).setCell (p := ⟨b, 7, none⟩) hb _
theorem putV_own {W : World} {base size n b : Nat} {e : TypeId} {v : Value} {xs : List Value} (h : W.ownsRow base e size v n xs) (hb : v.ownBlock ≠ some b) (x : PW) : (putV W b x).ownsRow base e size v n xs :=
  owns_setCell (a := ⟨b, 7, none⟩) (owns_setCell (a := ⟨b, 6, none⟩) (owns_setCell (a := ⟨b, 5, none⟩) (owns_setCell (a := ⟨b, 4, none⟩) (owns_setCell (a := ⟨b, 3, none⟩) (owns_setCell (a := ⟨b, 2, none⟩) (owns_setCell (a := ⟨b, 1, none⟩) (owns_setCell (a := ⟨b, 0, none⟩) h hb _) hb _) hb _) hb _) hb _) hb _) hb _) hb _
theorem putV_keep {B : Nat} {F : Nat → Prop} {a w : World} {b : Nat} (h : Keep B F a w) (hb : B ≤ b) (x : PW) : Keep B F a (putV w b x) :=
  (((((((h.setCell (p := ⟨b, 0, none⟩) (.inl hb) _).setCell (p := ⟨b, 1, none⟩) (.inl hb) _).setCell (p := ⟨b, 2, none⟩) (.inl hb) _).setCell (p := ⟨b, 3, none⟩) (.inl hb) _).setCell (p := ⟨b, 4, none⟩) (.inl hb) _).setCell (p := ⟨b, 5, none⟩) (.inl hb) _).setCell (p := ⟨b, 6, none⟩) (.inl hb) _).setCell (p := ⟨b, 7, none⟩) (.inl hb) _
/-- A block of a writer's value. -/
def VLoc (w : World) (b : Nat) (x : PW) : Prop := Loc w b x.val 29
theorem VLoc.cells {w : World} {b : Nat} {x : PW} (h : VLoc w b x) :
    w.cell? ⟨b, 0, none⟩ = some (.int .i64 x.number) ∧ w.cell? ⟨b, 1, none⟩ = some (.int .i64 x.mark) ∧ w.cell? ⟨b, 2, none⟩ = some (.int .i64 x.frames) ∧ w.cell? ⟨b, 3, none⟩ = some (.int .i64 x.procs) ∧ w.cell? ⟨b, 4, none⟩ = some (.int .i64 x.entries) ∧ w.cell? ⟨b, 5, none⟩ = some (.string x.name) ∧ w.cell? ⟨b, 6, none⟩ = some (.string x.key) ∧ w.cell? ⟨b, 7, none⟩ = some (.bool x.live) := ⟨h.cell 0, h.cell 1, h.cell 2, h.cell 3, h.cell 4, h.cell 5, h.cell 6, h.cell 7⟩

theorem r14new_any (a b : Nat) (h0 : 1 ≤ a) (h1 : a ≤ 281474976710655) (h2 : b ≤ 281474976710655) (w : World) :
    Calls Tryz.prog 8 #[.int .i64 a, .int .i64 b] w fun e w' => e = .returned (.tuple #[.agg (PW.new a b).val, .int .i64 0]) ∧ Below w.heap.size w w' := by
  have i0 : ¬ (a : Int) < 1 := by omega
  have i1 : ¬ (281474976710655 : Int) < (a : Int) := by omega
  have i2 : ¬ (b : Int) < 0 := by omega
  have i3 : ¬ (281474976710655 : Int) < (b : Int) := by omega
  go_enter Tryz.func8, Tryz.ntmps8
  go_wp2
  have L := Loc.new w #[.int .i64 a, .int .i64 b, .int .i64 0, .int .i64 0, .int .i64 0, .string ⟨#[]⟩, .string ⟨#[]⟩, .bool true] 29
  have k0 := L.cell 0; have k1 := L.cell 1; have k2 := L.cell 2; have k3 := L.cell 3; have k4 := L.cell 4; have k5 := L.cell 5; have k6 := L.cell 6; have k7 := L.cell 7
  simp only [List.getElem?_toArray, List.getElem?_cons_zero, List.getElem?_cons_succ] at k0 k1 k2 k3 k4 k5 k6 k7
  refine bodyPost_ret (v := .tuple #[.agg #[.int .i64 a, .int .i64 b, .int .i64 0, .int .i64 0, .int .i64 0, .string ⟨#[]⟩, .string ⟨#[]⟩, .bool true], .int .i64 0]) (by simp [results, Tryz.results8, go_sem, k0, k1, k2, k3, k4, k5, k6, k7]) rfl ?_
  exact ⟨rfl, (Below.refl w.heap.size w).alloc (Nat.le_refl _) _⟩
theorem r14new_no (a b : Int) (h : a < 1 ∨ 281474976710655 < a ∨ b < 0 ∨ 281474976710655 < b) (w : World) :
    Calls Tryz.prog 8 #[.int .i64 a, .int .i64 b] w fun e w' => e = .returned (.tuple #[.agg PW.zero.val, .int .i64 1]) ∧ Below w.heap.size w w' := by
  have H := Lib.hid h
  clear h
  by_cases h1 : a < 1
  · skip
    go_enter Tryz.func8, Tryz.ntmps8
    go_wp2
    have L := Loc.new w #[.int .i64 0, .int .i64 0, .int .i64 0, .int .i64 0, .int .i64 0, .string ⟨#[]⟩, .string ⟨#[]⟩, .bool false] 29
    have k0 := L.cell 0; have k1 := L.cell 1; have k2 := L.cell 2; have k3 := L.cell 3; have k4 := L.cell 4; have k5 := L.cell 5; have k6 := L.cell 6; have k7 := L.cell 7
    simp only [List.getElem?_toArray, List.getElem?_cons_zero, List.getElem?_cons_succ] at k0 k1 k2 k3 k4 k5 k6 k7
    refine bodyPost_ret (v := .tuple #[.agg #[.int .i64 0, .int .i64 0, .int .i64 0, .int .i64 0, .int .i64 0, .string ⟨#[]⟩, .string ⟨#[]⟩, .bool false], .int .i64 1]) (by simp [results, Tryz.results8, go_sem, k0, k1, k2, k3, k4, k5, k6, k7]) rfl ?_
    exact ⟨rfl, (Below.refl w.heap.size w).alloc (Nat.le_refl _) _⟩
  by_cases h2 : 281474976710655 < a
  · skip
    go_enter Tryz.func8, Tryz.ntmps8
    go_wp2
    have L := Loc.new w #[.int .i64 0, .int .i64 0, .int .i64 0, .int .i64 0, .int .i64 0, .string ⟨#[]⟩, .string ⟨#[]⟩, .bool false] 29
    have k0 := L.cell 0; have k1 := L.cell 1; have k2 := L.cell 2; have k3 := L.cell 3; have k4 := L.cell 4; have k5 := L.cell 5; have k6 := L.cell 6; have k7 := L.cell 7
    simp only [List.getElem?_toArray, List.getElem?_cons_zero, List.getElem?_cons_succ] at k0 k1 k2 k3 k4 k5 k6 k7
    refine bodyPost_ret (v := .tuple #[.agg #[.int .i64 0, .int .i64 0, .int .i64 0, .int .i64 0, .int .i64 0, .string ⟨#[]⟩, .string ⟨#[]⟩, .bool false], .int .i64 1]) (by simp [results, Tryz.results8, go_sem, k0, k1, k2, k3, k4, k5, k6, k7]) rfl ?_
    exact ⟨rfl, (Below.refl w.heap.size w).alloc (Nat.le_refl _) _⟩
  by_cases h3 : b < 0
  · skip
    go_enter Tryz.func8, Tryz.ntmps8
    go_wp2
    have L := Loc.new w #[.int .i64 0, .int .i64 0, .int .i64 0, .int .i64 0, .int .i64 0, .string ⟨#[]⟩, .string ⟨#[]⟩, .bool false] 29
    have k0 := L.cell 0; have k1 := L.cell 1; have k2 := L.cell 2; have k3 := L.cell 3; have k4 := L.cell 4; have k5 := L.cell 5; have k6 := L.cell 6; have k7 := L.cell 7
    simp only [List.getElem?_toArray, List.getElem?_cons_zero, List.getElem?_cons_succ] at k0 k1 k2 k3 k4 k5 k6 k7
    refine bodyPost_ret (v := .tuple #[.agg #[.int .i64 0, .int .i64 0, .int .i64 0, .int .i64 0, .int .i64 0, .string ⟨#[]⟩, .string ⟨#[]⟩, .bool false], .int .i64 1]) (by simp [results, Tryz.results8, go_sem, k0, k1, k2, k3, k4, k5, k6, k7]) rfl ?_
    exact ⟨rfl, (Below.refl w.heap.size w).alloc (Nat.le_refl _) _⟩
  have h4 : 281474976710655 < b := by have := H.out; omega
  go_enter Tryz.func8, Tryz.ntmps8
  go_wp2
  have L := Loc.new w #[.int .i64 0, .int .i64 0, .int .i64 0, .int .i64 0, .int .i64 0, .string ⟨#[]⟩, .string ⟨#[]⟩, .bool false] 29
  have k0 := L.cell 0; have k1 := L.cell 1; have k2 := L.cell 2; have k3 := L.cell 3; have k4 := L.cell 4; have k5 := L.cell 5; have k6 := L.cell 6; have k7 := L.cell 7
  simp only [List.getElem?_toArray, List.getElem?_cons_zero, List.getElem?_cons_succ] at k0 k1 k2 k3 k4 k5 k6 k7
  refine bodyPost_ret (v := .tuple #[.agg #[.int .i64 0, .int .i64 0, .int .i64 0, .int .i64 0, .int .i64 0, .string ⟨#[]⟩, .string ⟨#[]⟩, .bool false], .int .i64 1]) (by simp [results, Tryz.results8, go_sem, k0, k1, k2, k3, k4, k5, k6, k7]) rfl ?_
  exact ⟨rfl, (Below.refl w.heap.size w).alloc (Nat.le_refl _) _⟩

set_option maxRecDepth 100000 in
set_option maxHeartbeats 2000000 in
theorem begun_any (k : UInt8) (p : Nat) (hp : p ≤ 281474976710655) (w : World) :
    Calls Tryz.prog 44 #[.int .u8 k.toNat, .int .i64 p] w (RW (bodyF k p []) w) := by
  have hby := fun W => rwbyte_any none 0 0 [] k W (Row.nil _ _) rfl (fun _ => rfl) (by decide)
  have hnu := fun A c W (h : Row W A (cellsB [k])) (hA : A = none → 1 = 0) => rwnumber_any A 1 c [k] p W h rfl hA (by decide) (by omega) (by omega)
  obtain ⟨zs, hzs⟩ : ∃ zs, zs = [k] ++ encNumber (p : Int) := ⟨_, rfl⟩
  have hb : bodyF k p [] = zs := by rw [hzs]; unfold bodyF; rw [List.append_nil]; rfl
  rw [← hzs] at hnu
  rw [hb]
  rw [List.nil_append] at hby
  have HBY := Lib.hid hby
  have HNU := Lib.hid hnu
  have L1 := Loc.new w #[.slice none 0 0, .int .i64 0] 104
  have b1 := (Below.refl w.heap.size w).alloc (Nat.le_refl _) (.cells #[.slice none 0 0, .int .i64 0] 104)
  clear hby hnu hzs hb
  go_enter Tryz.func44, Tryz.ntmps44
  go_upto_region 2 with (go_at_call 88; refine (HBY.out _).mono ?_; rintro e w2 ⟨A2, c2, rfl, o2, b2⟩)
  have L2 := L1.below b2 L1.lt
  have b12 := below_then b1 b2 b1.size
  have o3 := owns_mono' (owns_mono o2 b1.size) ((Below.refl w2.heap.size w2).alloc (Nat.le_refl _) (.cells #[.slice A2 1 c2, .int .i64 0] 104))
  have L3 := L2.alloc (.cells #[.slice A2 1 c2, .int .i64 0] 104)
  have b3 := b12.alloc b12.size (.cells #[.slice A2 1 c2, .int .i64 0] 104)
  have hA2 := owns_none o2
  have HNU2 := Lib.hid (HNU.out A2 c2 _ (Row.of_owns o3) hA2)
  clear L1 L2 b1 b2 b12 o2 hA2
  go_wp2_with (go_at_call 45; refine HNU2.out.mono ?_; rintro e w4 ⟨A4, c4, rfl, o4, b4⟩; have L4 := L3.below b4 L3.lt; have z0 := L4.cell 0; have z1 := L4.cell 1; have f0 := L4.free 0; have f1 := L4.free 1; simp at z0 z1)
  obtain ⟨e0, e1, hrw⟩ := rw_end L4 (Nat.le_refl _) rfl (owns_mono o4 b3.size) (below_then b3 b4 b3.size)
  exact bodyPost_ret (v := .agg #[.slice A4 zs.length c4, .int .i64 0]) (by simp [results, Tryz.results44, go_sem, e0, e1]) rfl hrw

/-- A frame behind a row: what framed answers. -/
def FrP (w : World) (x : PW) (v : Value) (base : Nat) (zs : Bs) (e : Ending) (w' : World) : Prop :=
  ∃ A' c', e = .returned (.tuple #[.slice A' zs.length c', .agg ({ x with frames := x.frames + 1 } : PW).val]) ∧ w'.ownsRow base 5 1 (.slice A' zs.length c') zs.length (cellsB zs) ∧ Keep w.heap.size (fun k => v.ownBlock = some k) w w'

/-- The eight cells of a block, and that they are not frozen. -/
def Eight (W : World) (b : Nat) (v0 v1 v2 v3 v4 v5 v6 v7 : Value) : Prop :=
  W.cell? ⟨b, 0, none⟩ = some v0 ∧ W.cell? ⟨b, 1, none⟩ = some v1 ∧ W.cell? ⟨b, 2, none⟩ = some v2 ∧ W.cell? ⟨b, 3, none⟩ = some v3 ∧ W.cell? ⟨b, 4, none⟩ = some v4 ∧ W.cell? ⟨b, 5, none⟩ = some v5 ∧ W.cell? ⟨b, 6, none⟩ = some v6 ∧ W.cell? ⟨b, 7, none⟩ = some v7
theorem VLoc.eight {W : World} {b : Nat} {x : PW} (h : VLoc W b x) : Eight W b (.int .i64 x.number) (.int .i64 x.mark) (.int .i64 x.frames) (.int .i64 x.procs) (.int .i64 x.entries) (.string x.name) (.string x.key) (.bool x.live) := h.cells
def Free8 (W : World) (b : Nat) : Prop :=
  W.frozen? ⟨b, 0, none⟩ = false ∧ W.frozen? ⟨b, 1, none⟩ = false ∧ W.frozen? ⟨b, 2, none⟩ = false ∧ W.frozen? ⟨b, 3, none⟩ = false ∧ W.frozen? ⟨b, 4, none⟩ = false ∧ W.frozen? ⟨b, 5, none⟩ = false ∧ W.frozen? ⟨b, 6, none⟩ = false ∧ W.frozen? ⟨b, 7, none⟩ = false
theorem VLoc.free8 {W : World} {b : Nat} {x : PW} (h : VLoc W b x) : Free8 W b :=
  ⟨Loc.free h 0, Loc.free h 1, Loc.free h 2, Loc.free h 3, Loc.free h 4, Loc.free h 5, Loc.free h 6, Loc.free h 7⟩
abbrev zero8 : Array Value := #[.int .i64 0, .int .i64 0, .int .i64 0, .int .i64 0, .int .i64 0, .string ⟨#[]⟩, .string ⟨#[]⟩, .bool false]
theorem zero8_val : zero8 = PW.zero.val := rfl

set_option maxRecDepth 100000 in
set_option maxHeartbeats 4000000 in
theorem framed_any (x : PW) (O B : Option Addr) (n m c cb base : Nat) (xs ys : Bs) (w : World) (ho : w.ownsRow base 5 1 (.slice O n c) n (cellsB xs)) (hbase : base ≤ w.heap.size) (hn : n = xs.length) (hr : Row w B (cellsB ys)) (hm : m = ys.length) (hz : B = none → m = 0) (hm9 : m ≤ 80000000) (hn9 : n ≤ 90000000) (hf : x.frames ≤ 281474976710655) :
    Calls Tryz.prog 46 #[.slice O n c, .agg x.val, .slice B m cb] w (FrP w x (.slice O n c) base (xs ++ (headB ys ++ ys))) := by
  obtain ⟨x1, hx1⟩ : ∃ x1 : PW, x1 = { x with frames := x.frames + 1 } := ⟨_, rfl⟩
  have hw0 : ((w.alloc (.cells #[.int .i64 x.number, .int .i64 x.mark, .int .i64 ((x.frames : Int) + 1), .int .i64 x.procs, .int .i64 x.entries, .string x.name, .string x.key, .bool x.live] 29)).alloc (.cells #[.int .i64 0, .int .i64 0, .int .i64 0, .int .i64 0, .int .i64 0, .string ⟨#[]⟩, .string ⟨#[]⟩, .bool false] 29)) =
      ((w.alloc (.cells x1.val 29)).alloc (.cells PW.zero.val 29)) := by rw [hx1]; rfl
  have V4 : VLoc ((w.alloc (.cells x1.val 29)).alloc (.cells PW.zero.val 29)) w.heap.size x1 := (Loc.new w x1.val 29).alloc _
  have V7 : VLoc ((w.alloc (.cells x1.val 29)).alloc (.cells PW.zero.val 29)) (w.heap.size + 1) PW.zero := by
    have h := Loc.new (w.alloc (.cells x1.val 29)) PW.zero.val 29
    rw [World.size_alloc] at h
    exact h
  have b1 := ((Below.refl w.heap.size w).alloc (Nat.le_refl _) (.cells x1.val 29)).alloc (by simp) (.cells PW.zero.val 29)
  obtain ⟨W0, hW0⟩ : ∃ W0, W0 = ((w.alloc (.cells x1.val 29)).alloc (.cells PW.zero.val 29)) := ⟨_, rfl⟩
  rw [← hW0] at hw0 V4 V7 b1
  have hsz0 : W0.heap.size = w.heap.size + 2 := by rw [hW0]; simp
  have hse : ∀ W, Below W0.heap.size W0 W → Calls Tryz.prog 92 #[.slice B m cb] W (OwnB (headB ys ++ ys) W) := fun W hW => rseal_any ys B m cb hm (by omega) W ((hr.of_below b1 (Nat.le_refl _)).of_below hW (Nat.le_refl _)) hz
  have hln : (headB ys ++ ys).length = 8 + m := by rw [List.length_append, headB_length, hm]
  obtain ⟨N, hN⟩ : ∃ N, N = (headB ys ++ ys).length := ⟨_, rfl⟩
  have hN9 : N ≤ 90000000 := by omega
  have hFrP : ∀ A' c' e w', e = .returned (.tuple #[.slice A' (n + N) c', .agg x1.val]) → w'.ownsRow base 5 1 (.slice A' (n + N) c') (n + N) (cellsB xs ++ cellsB (headB ys ++ ys)) → Keep w.heap.size (fun k => (Value.slice O n c).ownBlock = some k) w w' → FrP w x (.slice O n c) base (xs ++ (headB ys ++ ys)) e w' := fun A' c' e w' h1 h2 h3 => by
    have hl : (xs ++ (headB ys ++ ys)).length = n + N := by rw [List.length_append, ← hN, hn]
    refine ⟨A', c', ?_, ?_, h3⟩
    · rw [hl, h1, hx1]
    · rw [hl, cellsB_append]; exact h2
  obtain ⟨zs, hzs⟩ : ∃ zs, zs = headB ys ++ ys := ⟨_, rfl⟩
  rw [← hzs] at hse hN hFrP ⊢
  subst hN
  have HF := Lib.hid hFrP
  have hoW : ∀ W, Below W0.heap.size W0 W → W.ownsRow base 5 1 (.slice O n c) n (cellsB xs) := fun W hW => owns_mono' (owns_mono' ho b1) hW
  -- what is known behind the call, and behind the append
  have haft : ∀ w2 A2 c2, w2.ownsRow W0.drew.heap.size 5 1 (.slice A2 zs.length c2) zs.length (cellsB zs) → Below W0.drew.heap.size W0.drew w2 →
      Eight w2 w.heap.size (.int .i64 x1.number) (.int .i64 x1.mark) (.int .i64 x1.frames) (.int .i64 x1.procs) (.int .i64 x1.entries) (.string x1.name) (.string x1.key) (.bool x1.live) ∧
      w2.ownsRow 0 5 1 (.slice O n c) n (cellsB xs) ∧ Src Tryz.prog 1 33 (.slice A2 zs.length c2) zs.length (cellsB zs) w2 := fun w2 A2 c2 o2 b2 => by
    have hb : Below W0.heap.size W0 w2 := below_then (below_drewN (Below.refl _ _) 1) b2 (Nat.le_refl _)
    refine ⟨VLoc.eight (Loc.below V4 hb V4.lt), owns_base (hoW w2 hb) (fun _ _ => Nat.zero_le _), ?_⟩
    exact (Row.of_owns o2).src (P := Tryz.prog) (size := 1) (tx := 33) Tryz.underlying33 (by rw [cellsB_length]; omega) (cellsB_one zs) (owns_none o2)
  have haft3 : ∀ w2 w3 A3 c3, Below W0.drew.heap.size W0.drew w2 → w3.ownsRow 0 5 1 (.slice A3 (n + zs.length) c3) (n + zs.length) (cellsB xs ++ cellsB zs) → w2.grownBy w3 (Value.slice O n c).ownBlock → (∀ k, (Value.slice A3 (n + zs.length) c3).ownBlock = some k → (Value.slice O n c).ownBlock = some k ∨ k = w2.heap.size) →
      Eight w3 w.heap.size (.int .i64 x1.number) (.int .i64 x1.mark) (.int .i64 x1.frames) (.int .i64 x1.procs) (.int .i64 x1.entries) (.string x1.name) (.string x1.key) (.bool x1.live) ∧
      Free8 w3 (w.heap.size + 1) ∧ VLoc w3 (w.heap.size + 1) PW.zero ∧ w3.ownsRow base 5 1 (.slice A3 (n + zs.length) c3) (n + zs.length) (cellsB xs ++ cellsB zs) ∧ Keep w.heap.size (fun k => (Value.slice O n c).ownBlock = some k) w w3 := fun w2 w3 A3 c3 b2 o3 g3 hb3 => by
    have hb : Below W0.heap.size W0 w2 := below_then (below_drewN (Below.refl _ _) 1) b2 (Nat.le_refl _)
    have ho2 := hoW w2 hb
    have v4 : VLoc w3 w.heap.size x1 := (Loc.below V4 hb V4.lt).grown g3 (owns_ne ho2 (Loc.below V4 hb V4.lt) (by decide))
    have v7 : VLoc w3 (w.heap.size + 1) PW.zero := (Loc.below V7 hb V7.lt).grown g3 (owns_ne ho2 (Loc.below V7 hb V7.lt) (by decide))
    refine ⟨v4.eight, v7.free8, v7, owns_base o3 (fun k hk => ?_), ?_⟩
    · rcases hb3 k hk with h | h
      · exact (ho.lt k h).1
      · rw [h]; have := hb.size; omega
    · have q1 : Keep w.heap.size (fun k => (Value.slice O n c).ownBlock = some k) w w2 := Keep.of_below (below_then b1 hb (by omega)) _
      exact q1.grown g3 (by have := hb.size; omega) (fun k hk => .inr hk)
  have k4 := VLoc.eight V4
  have HSE := Lib.hid hse
  have HA := Lib.hid haft
  have HA3 := Lib.hid haft3
  have HW0 := Lib.hid hw0
  clear hx1
  clear hse haft haft3 hFrP hzs hln hoW hr hn hm hz V4 V7 b1 hW0 hw0
  unfold PW.val
  go_enter Tryz.func46, Tryz.ntmps46
  go_upto_region 2 with (fail)
  rw [HW0.out]
  obtain ⟨k0, k1, k2, k3, k4, k5, k6, k7⟩ := k4
  refine wp_region_noPanic ?_
  go_region_law ((first | (go_simp; go_at_call 92; refine (HSE.out _ (below_drewN (Below.refl _ _) 1)).mono ?_; rintro e2 w2 ⟨A2, c2, rfl, o2, b2⟩; obtain ⟨⟨m0, m1, m2, m3, m4, m5, m6, m7⟩, ho2, hs2⟩ := HA.out w2 A2 c2 o2 b2) | (refine step_append_mine _ rfl _ _ 33 33 rfl 5 (.int .u8 0) 1 1 Tryz.underlying33 infoU8 rfl (by decide) _ _ _ rfl ho2 _ _ _ rfl hs2 (by unfold maxLen; omega) (by omega) ?_; intro A3 c3 w3 hown3 hg3 hb3 hx3; obtain ⟨⟨n0, n1, n2, n3, n4, n5, n6, n7⟩, ⟨f0, f1, f2, f3, f4, f5, f6, f7⟩, V3, o3, K3⟩ := HA3.out _ w3 A3 c3 b2 hown3 hg3 hb3; obtain ⟨z0, z1, z2, z3, z4, z5, z6, z7⟩ := V3.cells)))
  all_goals
    refine NoPanic.normal ?_
    go_wp2
    have Vf : VLoc (putV w3 (w.heap.size + 1) x1) (w.heap.size + 1) x1 := putV_loc V3 x1
    have hres := HF.out A3 c3 _ _ rfl (putV_own o3 (owns_ne o3 V3 (by decide)) x1) (putV_keep K3 (Nat.le_succ _) x1)
    obtain ⟨e0, e1, e2, e3, e4, e5, e6, e7⟩ := Vf.cells
    unfold putV at hres e0 e1 e2 e3 e4 e5 e6 e7
    exact bodyPost_ret (v := .tuple #[.slice A3 (n + zs.length) c3, .agg x1.val]) (by simp [results, Tryz.results46, go_sem, e0, e1, e2, e3, e4, e5, e6, e7, PW.val]) rfl hres
end Go.Proofs.YtnieminnnkbneaaGreat

namespace Go.Proofs.YtnieminnnkbneaaGreat
open Go.RowKit
set_option linter.unusedVariables false

theorem risKey2_any (s : ByteArray) (w : World) : Calls Tryz.prog 95 #[.string s] w fun e w' => e = .returned (.bool (isKey s)) ∧ w = w' := by
  by_cases h1 : 1 ≤ s.size
  · by_cases h2 : s.size ≤ 64
    · have hk : isKey s = true := by unfold isKey; simp; omega
      rw [hk]
      clear hk
      have t1 : (1 : Int) ≤ (s.size : Int) := by omega
      have t2 : (s.size : Int) ≤ 64 := by omega
      go_enter Tryz.func95, Tryz.ntmps95
      go_wp2
      go_ret
      exact ⟨rfl, rfl⟩
    · have hk : isKey s = false := by unfold isKey; simp; omega
      rw [hk]
      clear hk
      have t1 : (1 : Int) ≤ (s.size : Int) := by omega
      have t2 : ¬ (s.size : Int) ≤ 64 := by omega
      go_enter Tryz.func95, Tryz.ntmps95
      go_wp2
      go_ret
      exact ⟨rfl, rfl⟩
  · have hk : isKey s = false := by unfold isKey; simp; omega
    rw [hk]
    clear hk
    have t1 : ¬ (1 : Int) ≤ (s.size : Int) := by omega
    go_enter Tryz.func95, Tryz.ntmps95
    go_wp2
    go_ret
    exact ⟨rfl, rfl⟩

set_option maxRecDepth 100000 in
set_option maxHeartbeats 2000000 in
theorem r14proc_any (x : PW) (y : Prc) (A : Option Addr) (cap : Nat) (w : World) (hr : Row w A (codeCells y.code)) (hlen : y.code.length ≤ 140737488355328) :
    Calls Tryz.prog 47 #[.agg x.val, .agg (procCells y.name y.args A y.code.length cap)] w fun e w' => e = .returned (.int .i64 (pwProcE x y)) ∧ Below w.heap.size w w' := by
  obtain ⟨E, hE⟩ : ∃ E, E = pwProcE x y := ⟨_, rfl⟩
  rw [← hE]
  unfold pwProcE at hE
  obtain ⟨yn, ya, yc⟩ := y
  obtain ⟨live, number, mark, fr, pr, en, name, key⟩ := x
  have V2 : VLoc (w.alloc (.cells (PW.val ⟨live, number, mark, fr, pr, en, name, key⟩) 29)) w.heap.size ⟨live, number, mark, fr, pr, en, name, key⟩ := Loc.new w _ _
  unfold PW.val at *
  unfold procCells
  simp only at *
  have b1 := ((Below.refl w.heap.size w).alloc (Nat.le_refl _) (.cells #[.int .i64 number, .int .i64 mark, .int .i64 fr, .int .i64 pr, .int .i64 en, .string name, .string key, .bool live] 29)).alloc (by simp) (.cells #[.string yn, .int .i64 ya, .slice A yc.length cap] 54)
  have V3 := Loc.alloc V2 (.cells #[.string yn, .int .i64 ya, .slice A yc.length cap] 54)
  have P3 := Loc.new (w.alloc (.cells #[.int .i64 number, .int .i64 mark, .int .i64 fr, .int .i64 pr, .int .i64 en, .string name, .string key, .bool live] 29)) #[.string yn, .int .i64 ya, .slice A yc.length cap] 54
  rw [World.size_alloc] at P3
  have hck := fun V (hb : Row V A (codeCells yc)) => refCheck_any ⟨yn, ya, yc⟩ A cap V hb (by simp only; omega)
  obtain ⟨C, hC⟩ : ∃ C, C = procCheck ⟨yn, ya, yc⟩ := ⟨_, rfl⟩
  obtain ⟨c1, c2⟩ := C
  rw [← hC] at hck hE
  unfold procCells at hck
  simp only at hck hE
  obtain ⟨nc, hnc⟩ : ∃ nc, nc = yc.length := ⟨_, rfl⟩
  rw [← hnc] at hck b1 V3 P3 ⊢
  have HCK := Lib.hid (hck _ (hr.of_below b1 (Nat.le_refl _)))
  have HE := Lib.hid hE
  clear hck hC hr V2 hlen hnc hE
  go_enter Tryz.func47, Tryz.ntmps47
  go_upto_region 2 with (go_at_call 93; refine HCK.out.mono ?_; rintro e w3 ⟨rfl, b3⟩)
  have V4 := V3.below b3 V3.lt
  have P4 := P3.below b3 P3.lt
  have bb := below_then b1 b3 b1.size
  have z0 := P4.cell 0
  have k5 := V4.cell 5
  have k4 := V4.cell 4
  simp only [PW.val, List.getElem?_toArray, List.getElem?_cons_zero, List.getElem?_cons_succ] at z0 k5 k4
  clear V3 P3 b1 b3 HCK
  have he := HE.out
  by_cases hc2 : c2 = 0
  · subst hc2
    rw [if_neg (by simp)] at he
    cases hl : leS yn name with
    | true =>
      have hE25 : E = 25 := by
        rw [he]
        by_cases hen : 0 < en
        · rw [if_pos hen]
        · rw [if_neg hen, if_pos hl]
      have HE2 := Lib.hid hE25
      clear he hE25
      unfold leS at hl
      go_wp2
      go_ret
      exact ⟨by rw [HE2.out]; rfl, bb⟩
    | false =>
      by_cases hen : 0 < en
      · have t0 : (0 : Int) < (en : Int) := by omega
        have HE2 : Hid (E = 25) := Lib.hid (by rw [he, if_pos hen])
        clear he
        unfold leS at hl
        go_wp2
        go_ret
        exact ⟨by rw [HE2.out]; rfl, bb⟩
      · have t0 : ¬ (0 : Int) < (en : Int) := by omega
        have HE2 : Hid (E = 0) := Lib.hid (by rw [he, if_neg hen, if_neg (by simp [hl])])
        clear he
        unfold leS at hl
        go_wp2
        go_ret
        exact ⟨by rw [HE2.out]; rfl, bb⟩
  · rw [if_pos hc2] at he
    have t1 : (c2 != 0) = true := by simpa using hc2
    have HE2 := Lib.hid he
    clear he hc2
    go_wp2
    go_ret
    exact ⟨by rw [HE2.out]; rfl, bb⟩

set_option maxRecDepth 100000 in
set_option maxHeartbeats 2000000 in
theorem r14entry_any (x : PW) (y : Ent) (w : World) :
    Calls Tryz.prog 50 #[.agg x.val, .agg y.cells] w fun e w' => e = .returned (.int .i64 (pwEntE x y)) ∧ Below w.heap.size w w' := by
  obtain ⟨E, hE⟩ : ∃ E, E = pwEntE x y := ⟨_, rfl⟩
  rw [← hE]
  unfold pwEntE at hE
  obtain ⟨yk, ⟨vk, vn, vt⟩⟩ := y
  obtain ⟨live, number, mark, fr, pr, en, name, key⟩ := x
  have V2 : VLoc (w.alloc (.cells (PW.val ⟨live, number, mark, fr, pr, en, name, key⟩) 29)) w.heap.size ⟨live, number, mark, fr, pr, en, name, key⟩ := Loc.new w _ _
  unfold PW.val at *
  unfold Ent.cells
  simp only at *
  have b1 := ((Below.refl w.heap.size w).alloc (Nat.le_refl _) (.cells #[.int .i64 number, .int .i64 mark, .int .i64 fr, .int .i64 pr, .int .i64 en, .string name, .string key, .bool live] 29)).alloc (by simp) (.cells #[.string yk, .int .i64 vk, .int .i64 vn, .string vt] 62)
  have V3 := Loc.alloc V2 (.cells #[.string yk, .int .i64 vk, .int .i64 vn, .string vt] 62)
  have P3 := Loc.new (w.alloc (.cells #[.int .i64 number, .int .i64 mark, .int .i64 fr, .int .i64 pr, .int .i64 en, .string name, .string key, .bool live] 29)) #[.string yk, .int .i64 vk, .int .i64 vn, .string vt] 62
  rw [World.size_alloc] at P3
  have hck := fun V => refDCheck_any ⟨vk, vn, vt⟩ V
  obtain ⟨D, hD⟩ : ∃ D, D = datumCheck ⟨vk, vn, vt⟩ := ⟨_, rfl⟩
  rw [← hD] at hck hE
  unfold valCells at hck
  simp only at hck
  have HCK := Lib.hid hck
  have hik := fun V => risKey2_any yk V
  obtain ⟨I, hI⟩ : ∃ I, I = isKey yk := ⟨_, rfl⟩
  rw [← hI] at hik hE
  have HIK := Lib.hid hik
  have HE := Lib.hid hE
  clear hck hD V2 hE hI hik
  go_enter Tryz.func50, Tryz.ntmps50
  have hz0 := P3.cell 0
  simp only [List.getElem?_toArray, List.getElem?_cons_zero] at hz0
  go_upto_region 2 with (go_at_call 95; refine (HIK.out _).mono ?_; rintro e w2 ⟨rfl, rfl⟩)
  have he := HE.out
  cases I with
  | false =>
    have HE2 : Hid (E = 5) := Lib.hid (by rw [he]; rfl)
    clear he
    go_wp2
    go_ret
    exact ⟨by rw [HE2.out]; rfl, b1⟩
  | true =>
    rw [if_neg (by simp)] at he
    have HE2 := Lib.hid he
    clear he
    go_upto_region 5 with (go_at_call 96; refine (HCK.out _).mono ?_; rintro e w3 ⟨rfl, b3⟩)
    have V4 := V3.below b3 V3.lt
    have P4 := P3.below b3 P3.lt
    have bb := below_then b1 b3 b1.size
    have z0 := P4.cell 0
    have z1 := P4.cell 1
    have k6 := V4.cell 6
    simp only [PW.val, List.getElem?_toArray, List.getElem?_cons_zero, List.getElem?_cons_succ] at z0 z1 k6
    clear V3 P3 b1 b3 HCK HIK
    have he := HE2.out
    by_cases hD0 : D = 0
    · subst hD0
      rw [if_neg (by simp)] at he
      by_cases hvk : vk = 0
      · have t2 : (vk == 0) = true := by simp [hvk]
        have HE3 : Hid (E = 14) := Lib.hid (by rw [he, if_pos hvk])
        clear he hvk
        go_wp2
        go_ret
        exact ⟨by rw [HE3.out]; rfl, bb⟩
      · have t2 : (vk == 0) = false := by simpa using hvk
        rw [if_neg hvk] at he
        clear hvk
        cases hl : leS yk key with
        | true =>
          have HE3 : Hid (E = 25) := Lib.hid (by rw [he, if_pos hl])
          clear he
          unfold leS at hl
          go_wp2
          go_ret
          exact ⟨by rw [HE3.out]; rfl, bb⟩
        | false =>
          have HE3 : Hid (E = 0) := Lib.hid (by rw [he, if_neg (by simp [hl])])
          clear he
          unfold leS at hl
          go_wp2
          go_ret
          exact ⟨by rw [HE3.out]; rfl, bb⟩
    · rw [if_pos hD0] at he
      have t1 : (D != 0) = true := by simpa using hD0
      have HE3 := Lib.hid he
      clear he hD0
      go_wp2
      go_ret
      exact ⟨by rw [HE3.out]; rfl, bb⟩

/-- A writer of bytes in a block. -/
structure BW (B : Nat) (W : World) (wb : Nat) (A : Option Addr) (c : Nat) (zs : Bs) : Prop where
  t : Loc W wb #[.slice A zs.length c, .int .i64 0] 104
  o : W.ownsRow B 5 1 (.slice A zs.length c) zs.length (cellsB zs)
theorem BW.below {B wb c : Nat} {W V : World} {A : Option Addr} {zs : Bs} (h : BW B W wb A c zs) (hb : Below W.heap.size W V) : BW B V wb A c zs := ⟨h.t.below hb h.t.lt, owns_mono' h.o hb⟩
theorem BW.new {B c : Nat} {W V : World} {A : Option Addr} {zs : Bs} (o : V.ownsRow W.heap.size 5 1 (.slice A zs.length c) zs.length (cellsB zs)) (hB : B ≤ W.heap.size) : BW B (V.alloc (.cells #[.slice A zs.length c, .int .i64 0] 104)) V.heap.size A c zs :=
  ⟨Loc.new V _ _, owns_mono' (owns_mono o hB) ((Below.refl V.heap.size V).alloc (Nat.le_refl _) _)⟩
def put2 (w : World) (b : Nat) (u v : Value) : World := (w.setCell ⟨b, 0, none⟩ u).setCell ⟨b, 1, none⟩ v
theorem BW.step {B wb c c' : Nat} {W V : World} {A A' : Option Addr} {zs zs' : Bs} (h : BW B W wb A c zs) (hb : Below W.heap.size W V) (o : V.ownsRow W.heap.size 5 1 (.slice A' zs'.length c') zs'.length (cellsB zs')) (hB : B ≤ W.heap.size) :
    BW B (put2 V wb (.slice A' zs'.length c') (.int .i64 0)) wb A' c' zs' ∧ V.cell? ⟨wb, 0, none⟩ = some (.slice A zs.length c) ∧ V.cell? ⟨wb, 1, none⟩ = some (.int .i64 0) ∧ V.frozen? ⟨wb, 0, none⟩ = false ∧ V.frozen? ⟨wb, 1, none⟩ = false := by
  have g := h.below hb
  obtain ⟨T, O⟩ := ws_put g.t (owns_mono o hB)
  exact ⟨⟨T, O⟩, g.t.cell 0, g.t.cell 1, g.t.free 0, g.t.free 1⟩
theorem put2_loc {w : World} {b b' : Nat} {c : Array Value} {t : TypeId} {u v : Value} (h : Loc w b' c t) (hne : b' ≠ b) : Loc (put2 w b u v) b' c t := (h.other (a := ⟨b, 0, none⟩) hne _).other (a := ⟨b, 1, none⟩) hne _
theorem put2_below {B : Nat} {a w : World} {b : Nat} {u v : Value} (h : Below B a w) (hb : B ≤ b) : Below B a (put2 w b u v) := (h.setCell (p := ⟨b, 0, none⟩) hb _).setCell (p := ⟨b, 1, none⟩) hb _
theorem put2_own {W : World} {base size n b : Nat} {e : TypeId} {v u1 u2 : Value} {xs : List Value} (h : W.ownsRow base e size v n xs) (hb : v.ownBlock ≠ some b) : (put2 W b u1 u2).ownsRow base e size v n xs :=
  owns_setCell (a := ⟨b, 1, none⟩) (owns_setCell (a := ⟨b, 0, none⟩) h hb _) hb _
theorem BW.num {B wb c : Nat} {W : World} {A : Option Addr} {zs : Bs} (h : BW B W wb A c zs) (v : Nat) (hv : v ≤ 281474976710655) (hl : zs.length ≤ 10000000) :
    Calls Tryz.prog 45 #[.agg #[.slice A zs.length c, .int .i64 0], .int .i64 v] W (RW (zs ++ encNumber v) W) :=
  rwnumber_any A zs.length c zs v W (Row.of_owns h.o) rfl (owns_none h.o) (by omega) (by omega) (by omega)
theorem bodyF_more (k : UInt8) (f : Nat) (extra : Bs) : bodyF k f extra = bodyF k f [] ++ extra := by unfold bodyF; simp

/-- A writer of bytes in a block, behind the blocks of a writer's value and of the result. -/
structure HS (w W : World) (q : Nat) (A : Option Addr) (c : Nat) (zs : Bs) (x : PW) : Prop where
  bw : BW w.heap.size W q A c zs
  v1 : VLoc W w.heap.size x
  v3 : VLoc W (w.heap.size + 1) PW.zero
  b : Below w.heap.size w W
  hq : w.heap.size + 2 ≤ q
theorem HS.below {w W V : World} {q c : Nat} {A : Option Addr} {zs : Bs} {x : PW} (h : HS w W q A c zs x) (hb : Below W.heap.size W V) : HS w V q A c zs x :=
  ⟨h.bw.below hb, Loc.below h.v1 hb (Loc.lt h.v1), Loc.below h.v3 hb (Loc.lt h.v3), below_then h.b hb h.b.size, h.hq⟩
theorem HS.step {w W V : World} {q c c' : Nat} {A A' : Option Addr} {zs zs' : Bs} {x : PW} (h : HS w W q A c zs x) (hb : Below W.heap.size W V) (o : V.ownsRow W.heap.size 5 1 (.slice A' zs'.length c') zs'.length (cellsB zs')) :
    HS w (put2 V q (.slice A' zs'.length c') (.int .i64 0)) q A' c' zs' x ∧ V.cell? ⟨q, 0, none⟩ = some (.slice A zs.length c) ∧ V.cell? ⟨q, 1, none⟩ = some (.int .i64 0) ∧ V.frozen? ⟨q, 0, none⟩ = false ∧ V.frozen? ⟨q, 1, none⟩ = false := by
  obtain ⟨B', r⟩ := h.bw.step hb o h.b.size
  have g := h.below hb
  have hq := h.hq
  exact ⟨⟨B', put2_loc g.v1 (by omega), put2_loc g.v3 (by omega), put2_below g.b (by omega), hq⟩, r⟩

/-- As FrP, the writer behind it by name. -/
def FrQ (w : World) (x1 : PW) (v : Value) (base : Nat) (zs : Bs) (e : Ending) (w' : World) : Prop :=
  ∃ A' c', e = .returned (.tuple #[.slice A' zs.length c', .agg #[.int .i64 x1.number, .int .i64 x1.mark, .int .i64 x1.frames, .int .i64 x1.procs, .int .i64 x1.entries, .string x1.name, .string x1.key, .bool x1.live]]) ∧ w'.ownsRow base 5 1 (.slice A' zs.length c') zs.length (cellsB zs) ∧ Keep w.heap.size (fun k => v.ownBlock = some k) w w'
theorem framedQ_any (x x1 : PW) (hx : x1 = { x with frames := x.frames + 1 }) (O B : Option Addr) (n m c cb base : Nat) (xs ys zs : Bs) (hzs : zs = xs ++ (headB ys ++ ys)) (w : World) (ho : w.ownsRow base 5 1 (.slice O n c) n (cellsB xs)) (hbase : base ≤ w.heap.size) (hn : n = xs.length) (hr : Row w B (cellsB ys)) (hm : m = ys.length) (hz : B = none → m = 0) (hm9 : m ≤ 80000000) (hn9 : n ≤ 90000000) (hf : x.frames ≤ 281474976710655) :
    Calls Tryz.prog 46 #[.slice O n c, .agg #[.int .i64 x.number, .int .i64 x.mark, .int .i64 x.frames, .int .i64 x.procs, .int .i64 x.entries, .string x.name, .string x.key, .bool x.live], .slice B m cb] w (FrQ w x1 (.slice O n c) base zs) := by
  subst hx; subst hzs
  exact framed_any x O B n m c cb base xs ys w ho hbase hn hr hm hz hm9 hn9 hf

/-- What head answers. -/
def HeadP (w : World) (q : Bs × PW) (e : Ending) (w' : World) : Prop :=
  ∃ A c, e = .returned (.tuple #[.slice A q.1.length c, .agg q.2.val]) ∧ w'.ownsRow w.heap.size 5 1 (.slice A q.1.length c) q.1.length (cellsB q.1) ∧ Below w.heap.size w w'

set_option maxRecDepth 100000 in
set_option maxHeartbeats 4000000 in
theorem r14head_any (x : PW) (w : World) (hn1 : x.number ≤ 281474976710655) (hn2 : x.mark ≤ 281474976710655) (hf : x.frames ≤ 281474976710655) :
    Calls Tryz.prog 43 #[.agg x.val] w (HeadP w (pwHead x)) := by
  have V1 : VLoc ((w.alloc (.cells x.val 29)).alloc (.cells PW.zero.val 29)) w.heap.size x := (Loc.new w x.val 29).alloc _
  have V3 : VLoc ((w.alloc (.cells x.val 29)).alloc (.cells PW.zero.val 29)) (w.heap.size + 1) PW.zero := by
    have h := Loc.new (w.alloc (.cells x.val 29)) PW.zero.val 29
    rw [World.size_alloc] at h
    exact h
  have b1 := ((Below.refl w.heap.size w).alloc (Nat.le_refl _) (.cells x.val 29)).alloc (by simp) (.cells PW.zero.val 29)
  obtain ⟨W0, hW0⟩ : ∃ W0, W0 = ((w.alloc (.cells x.val 29)).alloc (.cells PW.zero.val 29)) := ⟨_, rfl⟩
  rw [← hW0] at V1 V3 b1
  have hsz0 : W0.heap.size = w.heap.size + 2 := by rw [hW0]; simp
  have HW0 : Hid (((w.alloc (.cells #[.int .i64 x.number, .int .i64 x.mark, .int .i64 x.frames, .int .i64 x.procs, .int .i64 x.entries, .string x.name, .string x.key, .bool x.live] 29)).alloc (.cells #[.int .i64 0, .int .i64 0, .int .i64 0, .int .i64 0, .int .i64 0, .string ⟨#[]⟩, .string ⟨#[]⟩, .bool false] 29)) = W0) := Lib.hid hW0.symm
  clear hW0
  by_cases h0 : x.frames = 0
  · have hq : pwHead x = (headFrame x, { x with frames := 1 }) := by unfold pwHead; rw [if_pos h0]
    have t0 : ¬ (0 : Int) < (x.frames : Int) := by omega
    have HBE := Lib.hid (begun_any 1 0 (by decide) W0)
    have HQ := Lib.hid hq
    have H0 := Lib.hid h0
    obtain ⟨z0, hz0⟩ : ∃ z0, z0 = bodyF 1 0 [] := ⟨_, rfl⟩
    have hl0 : z0.length ≤ 11 := by rw [hz0]; exact (bodyF_le 1 0 []).2
    have HBE' : Hid (Calls Tryz.prog 44 #[.int .u8 1, .int .i64 0] W0 (RW z0 W0)) := Lib.hid (by rw [hz0]; exact HBE.out)
    have k1 := V1.cells
    have HZ0 := Lib.hid hz0
    clear hq h0 hz0 HBE
    unfold PW.val
    go_enter Tryz.func43, Tryz.ntmps43
    go_upto_region 1 with (fail)
    rw [HW0.out]
    obtain ⟨k10, k11, k12, k13, k14, k15, k16, k17⟩ := k1
    go_upto_region 4 with (go_at_call 44; refine HBE'.out.mono ?_; rintro e w2 ⟨A2, c2, rfl, o2, b2⟩)
    have B2 := BW.new (B := w.heap.size) o2 b1.size
    have b12 := (below_then b1 b2 b1.size).alloc (below_then b1 b2 b1.size).size (.cells #[.slice A2 z0.length c2, .int .i64 0] 104)
    have V12 := Loc.alloc (Loc.below V1 b2 V1.lt) (.cells #[.slice A2 z0.length c2, .int .i64 0] 104)
    have V32 := Loc.alloc (Loc.below V3 b2 V3.lt) (.cells #[.slice A2 z0.length c2, .int .i64 0] 104)
    obtain ⟨q, hq⟩ : ∃ q, q = w2.heap.size := ⟨_, rfl⟩
    obtain ⟨W2, hW2⟩ : ∃ W2, W2 = w2.alloc (.cells #[.slice A2 z0.length c2, .int .i64 0] 104) := ⟨_, rfl⟩
    rw [← hW2, ← hq] at B2
    rw [← hW2] at b12 V12 V32
    rw [← hW2, ← hq]
    have hqs : W0.heap.size ≤ q := by rw [hq]; exact b2.size
    have S2 : HS w W2 q A2 c2 z0 x := ⟨B2, V12, V32, b12, by omega⟩
    obtain ⟨z1, hz1⟩ : ∃ z1, z1 = z0 ++ encNumber (x.number : Int) := ⟨_, rfl⟩
    obtain ⟨z2, hz2⟩ : ∃ z2, z2 = z1 ++ encNumber (x.mark : Int) := ⟨_, rfl⟩
    have hl1 : z1.length ≤ 21 := by rw [hz1, List.length_append]; have := encNumber_le (x.number : Int); omega
    have hl2 : z2.length ≤ 31 := by rw [hz2, List.length_append]; have := encNumber_le (x.mark : Int); omega
    have hnu := S2.bw.num x.number hn1 (by omega)
    rw [← hz1] at hnu
    have HNU := Lib.hid hnu
    have HZ : Hid (headB z2 ++ z2 = headFrame x) := Lib.hid (by
      have e : bodyF 1 0 (encNumber (x.number : Int) ++ encNumber (x.mark : Int)) = z2 := by rw [bodyF_more, hz2, hz1, HZ0.out, List.append_assoc]
      unfold headFrame frameB
      rw [e])
    have HZ1 := Lib.hid hz1
    have HZ2 := Lib.hid hz2
    have c20 := B2.t.cell 0
    have c21 := B2.t.cell 1
    have d20 := V12.cell 0
    simp only [PW.val, List.getElem?_toArray, List.getElem?_cons_zero, List.getElem?_cons_succ] at c20 c21 d20
    clear hnu hz1 hz2 hW2 hq o2 b2 V12 V32 b12 B2 V1 V3 HBE' HZ0 k10 k11 k12 k13 k14 k15 k16 k17
    go_upto_region 5 with (go_at_call 45; refine HNU.out.mono ?_; rintro e w4 ⟨A4, c4, rfl, o4, b4⟩; obtain ⟨S4, y0, y1, g0, g1⟩ := S2.step b4 o4)
    obtain ⟨W4, hW4⟩ : ∃ W4, W4 = put2 w4 q (.slice A4 z1.length c4) (.int .i64 0) := ⟨_, rfl⟩
    rw [← hW4] at S4
    unfold put2 at hW4
    rw [← hW4]
    have hnu := S4.bw.num x.mark hn2 (by omega)
    rw [← HZ2.out] at hnu
    have HNU2 := Lib.hid hnu
    have c40 := S4.bw.t.cell 0
    have c41 := S4.bw.t.cell 1
    have d41 := Loc.cell S4.v1 1
    simp only [PW.val, List.getElem?_toArray, List.getElem?_cons_zero, List.getElem?_cons_succ] at c40 c41 d41
    clear hnu hW4 o4 b4 S2 y0 y1 g0 g1 c20 c21 d20 HNU
    go_upto_region 6 with (go_at_call 45; refine HNU2.out.mono ?_; rintro e w6 ⟨A6, c6, rfl, o6, b6⟩; obtain ⟨S6, y0, y1, g0, g1⟩ := S4.step b6 o6)
    obtain ⟨W6, hW6⟩ : ∃ W6, W6 = put2 w6 q (.slice A6 z2.length c6) (.int .i64 0) := ⟨_, rfl⟩
    rw [← hW6] at S6
    unfold put2 at hW6
    rw [← hW6]
    obtain ⟨x1, hx1⟩ : ∃ x1 : PW, x1 = { x with frames := x.frames + 1 } := ⟨_, rfl⟩
    obtain ⟨zf, hzf⟩ : ∃ zf, zf = headFrame x := ⟨_, rfl⟩
    have HFR := Lib.hid (framedQ_any x x1 hx1 none A6 0 z2.length 0 c6 w.heap.size [] z2 zf (by rw [List.nil_append, HZ.out, hzf]) W6 (World.ownsRow_nil _ _ _ _) S6.b.size rfl (Row.of_owns S6.bw.o) rfl (owns_none S6.bw.o) (by omega) (by decide) hf)
    have HQ2 : Hid (pwHead x = (zf, x1)) := Lib.hid (by rw [HQ.out, hzf, hx1, H0.out])
    have c60 := S6.bw.t.cell 0
    obtain ⟨k10, k11, k12, k13, k14, k15, k16, k17⟩ := VLoc.cells S6.v1
    simp only [List.getElem?_toArray, List.getElem?_cons_zero] at c60
    clear hzf hW6 o6 b6 S4 y0 y1 g0 g1 c40 c41 d41 HNU2 hx1
    go_wp2_with (go_at_call 46; refine HFR.out.mono ?_; rintro e w8 ⟨A8, c8, rfl, o8, K8⟩; have b8 := K8.below (fun k _ h => by cases h); have V8 : VLoc w8 (w.heap.size + 1) PW.zero := Loc.below S6.v3 b8 (Loc.lt S6.v3); obtain ⟨m0, m1, m2, m3, m4, m5, m6, m7⟩ := V8.cells; obtain ⟨f0, f1, f2, f3, f4, f5, f6, f7⟩ := V8.free8)
    have Vf : VLoc (putV w8 (w.heap.size + 1) x1) (w.heap.size + 1) x1 := putV_loc V8 x1
    have of := putV_own o8 (owns_ne o8 V8 (by decide)) x1
    have bf := putV_below (below_then S6.b b8 S6.b.size) (Nat.le_succ _) x1
    obtain ⟨e0, e1, e2, e3, e4, e5, e6, e7⟩ := Vf.cells
    have hres : HeadP w (pwHead x) (.returned (.tuple #[.slice A8 zf.length c8, .agg x1.val])) (putV w8 (w.heap.size + 1) x1) := by rw [HQ2.out]; exact ⟨A8, c8, rfl, of, bf⟩
    unfold putV at hres e0 e1 e2 e3 e4 e5 e6 e7
    exact bodyPost_ret (v := .tuple #[.slice A8 zf.length c8, .agg x1.val]) (by simp [results, Tryz.results43, go_sem, e0, e1, e2, e3, e4, e5, e6, e7, PW.val]) rfl hres
  · have hq : pwHead x = ([], x) := by unfold pwHead; rw [if_neg h0]
    have t0 : (0 : Int) < (x.frames : Int) := by omega
    have HQ := Lib.hid hq
    have k1 := V1.cells
    have k2 := V3.cells
    have k3 := V3.free8
    have Vf : VLoc (putV W0 (w.heap.size + 1) x).drew (w.heap.size + 1) x := Loc.drew (putV_loc V3 x)
    have bf := below_drewN (putV_below b1 (Nat.le_succ w.heap.size) x) 1
    have hfin := Vf.cells
    have hres : HeadP w (pwHead x) (.returned (.tuple #[.slice none 0 0, .agg x.val])) (putV W0 (w.heap.size + 1) x).drew := by rw [hq]; exact ⟨none, 0, rfl, World.ownsRow_nil _ _ _ _, bf⟩
    have HRES := Lib.hid hres
    have HFIN := Lib.hid hfin
    clear hq h0 hres hfin Vf bf
    unfold PW.val
    go_enter Tryz.func43, Tryz.ntmps43
    go_upto_region 1 with (fail)
    rw [HW0.out]
    obtain ⟨k10, k11, k12, k13, k14, k15, k16, k17⟩ := k1
    obtain ⟨m0, m1, m2, m3, m4, m5, m6, m7⟩ := k2
    obtain ⟨f0, f1, f2, f3, f4, f5, f6, f7⟩ := k3
    go_upto_region 2 with (fail)
    go_region
    all_goals
      go_wp2
      have hres := HRES.out
      obtain ⟨e0, e1, e2, e3, e4, e5, e6, e7⟩ := HFIN.out
      unfold putV at hres e0 e1 e2 e3 e4 e5 e6 e7
      exact bodyPost_ret (v := .tuple #[.slice none 0 0, .agg x.val]) (by simp [results, Tryz.results43, go_sem, e0, e1, e2, e3, e4, e5, e6, e7, PW.val]) rfl hres
end Go.Proofs.YtnieminnnkbneaaGreat

namespace Go.Proofs.YtnieminnnkbneaaGreat
open Go.RowKit
set_option linter.unusedVariables false

/-- The same, at the end: the writer of bytes, the writer's value, what was given out. -/
structure ES (w W : World) (p q : Nat) (A : Option Addr) (c : Nat) (zs : Bs) (O : Option Addr) (d : Nat) (ys : Bs) (x : PW) : Prop where
  bw : BW w.heap.size W q A c zs
  v3 : VLoc W (w.heap.size + 1) PW.zero
  v6 : VLoc W p x
  o : W.ownsRow w.heap.size 5 1 (.slice O ys.length d) ys.length (cellsB ys)
  b : Below w.heap.size w W
  hp : w.heap.size + 2 ≤ p
  hq : p < q
theorem ES.below {w W V : World} {p q c d : Nat} {A O : Option Addr} {zs ys : Bs} {x : PW} (h : ES w W p q A c zs O d ys x) (hb : Below W.heap.size W V) : ES w V p q A c zs O d ys x :=
  ⟨h.bw.below hb, Loc.below h.v3 hb (Loc.lt h.v3), Loc.below h.v6 hb (Loc.lt h.v6), owns_mono' h.o hb, below_then h.b hb h.b.size, h.hp, h.hq⟩
theorem ES.step {w W V : World} {p q c c' d : Nat} {A A' O : Option Addr} {zs zs' ys : Bs} {x : PW} (h : ES w W p q A c zs O d ys x) (hb : Below W.heap.size W V) (o : V.ownsRow W.heap.size 5 1 (.slice A' zs'.length c') zs'.length (cellsB zs')) :
    ES w (put2 V q (.slice A' zs'.length c') (.int .i64 0)) p q A' c' zs' O d ys x ∧ V.cell? ⟨q, 0, none⟩ = some (.slice A zs.length c) ∧ V.cell? ⟨q, 1, none⟩ = some (.int .i64 0) ∧ V.frozen? ⟨q, 0, none⟩ = false ∧ V.frozen? ⟨q, 1, none⟩ = false := by
  obtain ⟨B', r⟩ := h.bw.step hb o h.b.size
  have g := h.below hb
  have hq := h.hq
  have hp := h.hp
  exact ⟨⟨B', put2_loc g.v3 (by omega), put2_loc g.v6 (by omega), put2_own g.o (owns_ne g.o g.bw.t (by decide)), put2_below g.b (by omega), h.hp, h.hq⟩, r⟩

/-- What the document's End answers. -/
def r14End (x : PW) : (Bs × PW) × Int := if x.live = false then (([], x), 25) else (((pwHead x).1 ++ endFrame (pwHead x).2, { (pwHead x).2 with frames := (pwHead x).2.frames + 1, live := false }), 0)
def R14P (w : World) (q : (Bs × PW) × Int) (e : Ending) (w' : World) : Prop :=
  ∃ A c, e = .returned (.tuple #[.slice A q.1.1.length c, .agg q.1.2.val, .int .i64 q.2]) ∧ w'.ownsRow w.heap.size 5 1 (.slice A q.1.1.length c) q.1.1.length (cellsB q.1.1) ∧ Below w.heap.size w w'

set_option maxRecDepth 100000 in
set_option maxHeartbeats 4000000 in
theorem r14end_any (x : PW) (w : World) (hn1 : x.number ≤ 281474976710655) (hn2 : x.mark ≤ 281474976710655) (hf : x.frames ≤ 281474976710600) (hp : x.procs ≤ 281474976710655) (he : x.entries ≤ 281474976710655) :
    Calls Tryz.prog 17 #[.agg x.val] w (R14P w (r14End x)) := by
  have V1 : VLoc ((w.alloc (.cells x.val 29)).alloc (.cells PW.zero.val 29)) w.heap.size x := (Loc.new w x.val 29).alloc _
  have V3 : VLoc ((w.alloc (.cells x.val 29)).alloc (.cells PW.zero.val 29)) (w.heap.size + 1) PW.zero := by
    have h := Loc.new (w.alloc (.cells x.val 29)) PW.zero.val 29
    rw [World.size_alloc] at h
    exact h
  have b1 := ((Below.refl w.heap.size w).alloc (Nat.le_refl _) (.cells x.val 29)).alloc (by simp) (.cells PW.zero.val 29)
  obtain ⟨W0, hW0⟩ : ∃ W0, W0 = ((w.alloc (.cells x.val 29)).alloc (.cells PW.zero.val 29)) := ⟨_, rfl⟩
  rw [← hW0] at V1 V3 b1
  have hsz0 : W0.heap.size = w.heap.size + 2 := by rw [hW0]; simp
  have HW0 : Hid (((w.alloc (.cells #[.int .i64 x.number, .int .i64 x.mark, .int .i64 x.frames, .int .i64 x.procs, .int .i64 x.entries, .string x.name, .string x.key, .bool x.live] 29)).alloc (.cells #[.int .i64 0, .int .i64 0, .int .i64 0, .int .i64 0, .int .i64 0, .string ⟨#[]⟩, .string ⟨#[]⟩, .bool false] 29)) = W0) := Lib.hid hW0.symm
  clear hW0
  cases hlv : x.live with
  | false =>
    have hq : r14End x = (([], x), 25) := by unfold r14End; rw [if_pos hlv]
    have k1 := V1.cells
    have k2 := V3.cells
    have k3 := V3.free8
    have Vf : VLoc (putV W0 (w.heap.size + 1) x).drew (w.heap.size + 1) x := Loc.drew (putV_loc V3 x)
    have bf := below_drewN (putV_below b1 (Nat.le_succ w.heap.size) x) 1
    have hfin := Vf.cells
    have hres : R14P w (r14End x) (.returned (.tuple #[.slice none 0 0, .agg x.val, .int .i64 25])) (putV W0 (w.heap.size + 1) x).drew := by rw [hq]; exact ⟨none, 0, rfl, World.ownsRow_nil _ _ _ _, bf⟩
    have HRES := Lib.hid hres
    have HFIN := Lib.hid hfin
    have HLV := Lib.hid hlv
    rw [hlv] at k1
    rw [hlv] at HW0
    clear hq hres hfin Vf bf
    unfold PW.val
    rw [hlv]
    clear hlv
    go_enter Tryz.func17, Tryz.ntmps17
    go_upto_region 1 with (fail)
    rw [HW0.out]
    obtain ⟨k10, k11, k12, k13, k14, k15, k16, k17⟩ := k1
    obtain ⟨m0, m1, m2, m3, m4, m5, m6, m7⟩ := k2
    obtain ⟨f0, f1, f2, f3, f4, f5, f6, f7⟩ := k3
    go_upto_region 2 with (fail)
    go_region
    all_goals
      go_wp2
      have hres := HRES.out
      obtain ⟨e0, e1, e2, e3, e4, e5, e6, e7⟩ := HFIN.out
      unfold putV at hres e0 e1 e2 e3 e4 e5 e6 e7
      rw [HLV.out] at hres e0 e1 e2 e3 e4 e5 e6 e7
      exact bodyPost_ret (v := .tuple #[.slice none 0 0, .agg x.val, .int .i64 25]) (by simp [results, Tryz.results17, go_sem, e0, e1, e2, e3, e4, e5, e6, e7, PW.val, HLV.out]) rfl hres
  | true =>
    have hbb := pwHead_b x
    have hH := r14head_any x W0 hn1 hn2 (by omega)
    obtain ⟨y1, hy1⟩ : ∃ y1, y1 = (pwHead x).1 := ⟨_, rfl⟩
    obtain ⟨x1, hx1⟩ : ∃ x1, x1 = (pwHead x).2 := ⟨_, rfl⟩
    have hQ : r14End x = ((y1 ++ endFrame x1, { x1 with frames := x1.frames + 1, live := false }), 0) := by unfold r14End; rw [if_neg (by simp [hlv]), hy1, hx1]
    unfold HeadP at hH
    rw [← hy1, ← hx1] at hH
    rw [← hx1, ← hy1] at hbb
    have HH := Lib.hid hH
    have HQ := Lib.hid hQ
    have HBB := Lib.hid hbb
    have k1 := V1.cells
    rw [hlv] at k1
    rw [hlv] at HW0
    clear hH hQ hy1 hx1 hbb
    unfold PW.val at HH ⊢
    rw [hlv] at HH ⊢
    clear hlv
    go_enter Tryz.func17, Tryz.ntmps17
    go_upto_region 1 with (fail)
    rw [HW0.out]
    obtain ⟨k10, k11, k12, k13, k14, k15, k16, k17⟩ := k1
    go_upto_region 4 with (go_at_call 43; refine HH.out.mono ?_; rintro e w2 ⟨A2, c2, rfl, o2, b2⟩)
    have hf1 := HBB.out.1
    have hp1 := HBB.out.2.1
    have he1 := HBB.out.2.2.1
    have hl1 := HBB.out.2.2.2.1
    have V6 : VLoc (w2.alloc (.cells x1.val 29)) w2.heap.size x1 := Loc.new w2 x1.val _
    have V32 := Loc.alloc (Loc.below V3 b2 V3.lt) (.cells x1.val 29)
    have ba := (Below.refl w2.heap.size w2).alloc (Nat.le_refl _) (.cells x1.val 29)
    have b12 := below_then (below_then b1 b2 b1.size) ba (below_then b1 b2 b1.size).size
    have o12 := owns_mono' (owns_mono o2 b1.size) ba
    have hsz2 := b2.size
    obtain ⟨p6, hp6⟩ : ∃ p6, p6 = w2.heap.size := ⟨_, rfl⟩
    obtain ⟨W2, hW2⟩ : ∃ W2, W2 = w2.alloc (.cells x1.val 29) := ⟨_, rfl⟩
    rw [← hW2] at V6 V32 b12 o12
    rw [← hp6] at V6 hsz2
    have hp6W : W2.heap.size = p6 + 1 := by rw [hW2, hp6]; simp
    unfold PW.val at hW2
    rw [← hW2, ← hp6]
    obtain ⟨z0, hz0⟩ : ∃ z0, z0 = bodyF 4 x1.frames [] := ⟨_, rfl⟩
    have hl0 : z0.length ≤ 11 := by rw [hz0]; exact (bodyF_le 4 x1.frames []).2
    have HBE := Lib.hid (begun_any 4 x1.frames (by omega) W2)
    have HBE' : Hid (Calls Tryz.prog 44 #[.int .u8 4, .int .i64 x1.frames] W2 (RW z0 W2)) := Lib.hid (by rw [hz0]; exact HBE.out)
    have HZ0 := Lib.hid hz0
    obtain ⟨k20, k21, k22, k23, k24, k25, k26, k27⟩ := VLoc.cells V6
    clear hW2 hp6 HBE hz0 b2 o2 ba V1 V3 HH k10 k11 k12 k13 k14 k15 k16 k17 b1
    go_upto_region 5 with (go_at_call 44; refine HBE'.out.mono ?_; rintro e w3 ⟨A3, c3, rfl, o3, b3⟩)
    have B3 := BW.new (B := w.heap.size) o3 b12.size
    have ba := (Below.refl w3.heap.size w3).alloc (Nat.le_refl _) (.cells #[.slice A3 z0.length c3, .int .i64 0] 104)
    have b3a := below_then b3 ba b3.size
    have hsz3 := b3.size
    obtain ⟨q, hq⟩ : ∃ q, q = w3.heap.size := ⟨_, rfl⟩
    obtain ⟨W3, hW3⟩ : ∃ W3, W3 = w3.alloc (.cells #[.slice A3 z0.length c3, .int .i64 0] 104) := ⟨_, rfl⟩
    rw [← hW3, ← hq] at B3
    rw [← hW3] at b3a
    rw [← hq] at hsz3
    rw [← hW3, ← hq]
    have S3 : ES w W3 p6 q A3 c3 z0 A2 c2 y1 x1 := ⟨B3, Loc.below V32 b3a V32.lt, Loc.below V6 b3a V6.lt, owns_mono' o12 b3a, below_then b12 b3a b12.size, by omega, by omega⟩
    obtain ⟨z1, hz1⟩ : ∃ z1, z1 = z0 ++ encNumber (x1.procs : Int) := ⟨_, rfl⟩
    obtain ⟨z2, hz2⟩ : ∃ z2, z2 = z1 ++ encNumber (x1.entries : Int) := ⟨_, rfl⟩
    have hlz1 : z1.length ≤ 21 := by rw [hz1, List.length_append]; have := encNumber_le (x1.procs : Int); omega
    have hlz2 : z2.length ≤ 31 := by rw [hz2, List.length_append]; have := encNumber_le (x1.entries : Int); omega
    have hnu := S3.bw.num x1.procs (by omega) (by omega)
    rw [← hz1] at hnu
    have HNU := Lib.hid hnu
    have HZ : Hid (headB z2 ++ z2 = endFrame x1) := Lib.hid (by
      have e : bodyF 4 x1.frames (encNumber (x1.procs : Int) ++ encNumber (x1.entries : Int)) = z2 := by rw [bodyF_more, hz2, hz1, HZ0.out, List.append_assoc]
      unfold endFrame frameB
      rw [e])
    have HZ2 := Lib.hid hz2
    have HPE : Hid (x1.entries ≤ 281474976710655) := Lib.hid (by omega)
    have HFR1 : Hid (x1.frames ≤ 281474976710655) := Lib.hid (by omega)
    have c30 := S3.bw.t.cell 0
    have c31 := S3.bw.t.cell 1
    obtain ⟨_, _, _, d33, d34, _, _, _⟩ := VLoc.cells S3.v6
    simp only [List.getElem?_toArray, List.getElem?_cons_zero, List.getElem?_cons_succ] at c30 c31
    clear hnu hz1 hz2 hW3 hq o3 b3 V32 b12 B3 HBE' HZ0 k20 k21 k22 k23 k24 k25 k26 k27 hf1 hp1 he1 ba b3a o12 V6 HBB
    go_upto_region 6 with (go_at_call 45; refine HNU.out.mono ?_; rintro e w4 ⟨A4, c4, rfl, o4, b4⟩; obtain ⟨S4, y0, y11, g0, g1⟩ := S3.step b4 o4)
    obtain ⟨W4, hW4⟩ : ∃ W4, W4 = put2 w4 q (.slice A4 z1.length c4) (.int .i64 0) := ⟨_, rfl⟩
    rw [← hW4] at S4
    unfold put2 at hW4
    rw [← hW4]
    have hnu := S4.bw.num x1.entries HPE.out (by omega)
    rw [← HZ2.out] at hnu
    have HNU2 := Lib.hid hnu
    have c40 := S4.bw.t.cell 0
    have c41 := S4.bw.t.cell 1
    obtain ⟨_, _, _, _, d44, _, _, _⟩ := VLoc.cells S4.v6
    simp only [List.getElem?_toArray, List.getElem?_cons_zero, List.getElem?_cons_succ] at c40 c41
    clear hnu hW4 o4 b4 S3 y0 y11 g0 g1 c30 c31 d33 d34 HNU
    go_upto_region 7 with (go_at_call 45; refine HNU2.out.mono ?_; rintro e w6 ⟨A6, c6, rfl, o6, b6⟩; obtain ⟨S6, y0, y11, g0, g1⟩ := S4.step b6 o6)
    obtain ⟨W6, hW6⟩ : ∃ W6, W6 = put2 w6 q (.slice A6 z2.length c6) (.int .i64 0) := ⟨_, rfl⟩
    rw [← hW6] at S6
    unfold put2 at hW6
    rw [← hW6]
    obtain ⟨x2, hx2⟩ : ∃ x2 : PW, x2 = { x1 with frames := x1.frames + 1 } := ⟨_, rfl⟩
    obtain ⟨x3, hx3⟩ : ∃ x3 : PW, x3 = { x2 with live := false } := ⟨_, rfl⟩
    obtain ⟨zf, hzf⟩ : ∃ zf, zf = y1 ++ endFrame x1 := ⟨_, rfl⟩
    have HFR := Lib.hid (framedQ_any x1 x2 hx2 A2 A6 y1.length z2.length c2 c6 w.heap.size y1 z2 zf (by rw [HZ.out, hzf]) W6 S6.o S6.b.size rfl (Row.of_owns S6.bw.o) rfl (owns_none S6.bw.o) (by omega) (by omega) HFR1.out)
    have HQ2 : Hid (r14End x = ((zf, x3), 0)) := Lib.hid (by rw [HQ.out, hzf, hx3, hx2])
    have HX3 : Hid (x3.number = x2.number ∧ x3.mark = x2.mark ∧ x3.frames = x2.frames ∧ x3.procs = x2.procs ∧ x3.entries = x2.entries ∧ x3.name = x2.name ∧ x3.key = x2.key ∧ x3.live = false) := Lib.hid (by rw [hx3]; exact ⟨rfl, rfl, rfl, rfl, rfl, rfl, rfl, rfl⟩)
    have c60 := S6.bw.t.cell 0
    obtain ⟨d60, d61, d62, d63, d64, d65, d66, d67⟩ := VLoc.cells S6.v6
    simp only [List.getElem?_toArray, List.getElem?_cons_zero] at c60
    clear hx2 hx3 hzf hW6 o6 b6 S4 y0 y11 g0 g1 c40 c41 d44 HNU2
    go_upto_region 8 with (go_at_call 46; refine HFR.out.mono ?_; rintro e w8 ⟨A8, c8, rfl, o8, K8⟩; have V86 : VLoc w8 p6 x1 := Loc.keep S6.v6 K8 (Loc.lt S6.v6) (owns_ne S6.o S6.v6 (by decide)); obtain ⟨m0, m1, m2, m3, m4, m5, m6, m7⟩ := V86.cells; obtain ⟨f0, f1, f2, f3, f4, f5, f6, f7⟩ := V86.free8)
    have V83 : VLoc w8 (w.heap.size + 1) PW.zero := Loc.keep S6.v3 K8 (Loc.lt S6.v3) (owns_ne S6.o S6.v3 (by decide))
    have b8 := below_keep S6.b K8 S6.b.size (fun k hk => (S6.o.lt k hk).1)
    have h36 := S6.hp
    have V8 : VLoc (putV w8 p6 x2) p6 x2 := putV_loc V86 x2
    have V83' : VLoc (putV w8 p6 x2) (w.heap.size + 1) PW.zero := putV_other V83 (by omega) x2
    have o8' := putV_own o8 (owns_ne o8 V86 (by decide)) x2
    have b8' := putV_below b8 (by omega : w.heap.size ≤ p6) x2
    obtain ⟨W8, hW8⟩ : ∃ W8, W8 = putV w8 p6 x2 := ⟨_, rfl⟩
    rw [← hW8] at V8 V83' o8' b8'
    unfold putV at hW8
    rw [← hW8]
    have n7 := (VLoc.cells V8).2.2.2.2.2.2.2
    have n7f := Loc.free V8 7
    have hx3v : x2.val.setIfInBounds 7 (.bool false) = x3.val := by
      obtain ⟨e0, e1, e2, e3, e4, e5, e6, e7⟩ := HX3.out
      unfold PW.val
      rw [e0, e1, e2, e3, e4, e5, e6, e7]
      rfl
    have V9 : VLoc (W8.setCell ⟨p6, 7, none⟩ (.bool false)) p6 x3 := by
      have h := Loc.set V8 7 (.bool false)
      rw [hx3v] at h
      exact h
    have V93 : VLoc (W8.setCell ⟨p6, 7, none⟩ (.bool false)) (w.heap.size + 1) PW.zero := Loc.other V83' (a := ⟨p6, 7, none⟩) (show w.heap.size + 1 ≠ p6 by omega) _
    have o9 := owns_setCell (a := ⟨p6, 7, none⟩) o8' (owns_ne o8' V8 (by decide)) (.bool false)
    have b9 := b8'.setCell (p := ⟨p6, 7, none⟩) (show w.heap.size ≤ p6 by omega) (.bool false)
    clear hW8 V86 V83 o8 b8 K8 m0 m1 m2 m3 m4 m5 m6 m7 f0 f1 f2 f3 f4 f5 f6 f7 d60 d61 d62 d63 d64 d65 d66 d67 c60 S6 HFR hx3v
    go_upto_region 9 with (fail)
    obtain ⟨W9, hW9⟩ : ∃ W9, W9 = W8.setCell ⟨p6, 7, none⟩ (.bool false) := ⟨_, rfl⟩
    rw [← hW9] at V9 V93 o9 b9
    rw [← hW9]
    clear hW9 V8 V83' o8' b8' n7 n7f
    obtain ⟨k10, k11, k12, k13, k14, k15, k16, k17⟩ := V9.cells
    obtain ⟨m0, m1, m2, m3, m4, m5, m6, m7⟩ := V93.cells
    obtain ⟨f0, f1, f2, f3, f4, f5, f6, f7⟩ := V93.free8
    have Vf : VLoc (putV W9 (w.heap.size + 1) x3).drew (w.heap.size + 1) x3 := Loc.drew (putV_loc V93 x3)
    have bf := below_drewN (putV_below b9 (Nat.le_succ w.heap.size) x3) 1
    have of : (putV W9 (w.heap.size + 1) x3).drew.ownsRow w.heap.size 5 1 (.slice A8 zf.length c8) zf.length (cellsB zf) := owns_mono' (putV_own o9 (owns_ne o9 V93 (by decide)) x3) (below_drewN (Below.refl _ _) 1)
    have hfin := Vf.cells
    have hres : R14P w (r14End x) (.returned (.tuple #[.slice A8 zf.length c8, .agg x3.val, .int .i64 0])) (putV W9 (w.heap.size + 1) x3).drew := by rw [HQ2.out]; exact ⟨A8, c8, rfl, of, bf⟩
    have HRES := Lib.hid hres
    have HFIN := Lib.hid hfin
    clear hres hfin Vf bf of o9 b9
    go_region
    all_goals
      go_wp2
      have hres := HRES.out
      obtain ⟨e0, e1, e2, e3, e4, e5, e6, e7⟩ := HFIN.out
      unfold putV at hres e0 e1 e2 e3 e4 e5 e6 e7
      exact bodyPost_ret (v := .tuple #[.slice A8 zf.length c8, .agg x3.val, .int .i64 0]) (by simp [results, Tryz.results17, go_sem, e0, e1, e2, e3, e4, e5, e6, e7, PW.val]) rfl hres
end Go.Proofs.YtnieminnnkbneaaGreat

namespace Go.Proofs.YtnieminnnkbneaaGreat
open Go.RowKit
set_option linter.unusedVariables false

/-- The blocks of Page: the writer that came, the result, the writer in work; what was given out. -/
structure GS (w W : World) (p : Nat) (x xk : PW) (O : Option Addr) (d : Nat) (ys : Bs) : Prop where
  v1 : VLoc W w.heap.size x
  v7 : VLoc W (w.heap.size + 1) PW.zero
  v11 : VLoc W p xk
  o : W.ownsRow w.heap.size 5 1 (.slice O ys.length d) ys.length (cellsB ys)
  b : Below w.heap.size w W
  hp : w.heap.size + 2 ≤ p
namespace GS
variable {w W V : World} {p : Nat} {x xk : PW} {O : Option Addr} {d : Nat} {ys : Bs}
theorem below (h : GS w W p x xk O d ys) (hb : Below W.heap.size W V) : GS w V p x xk O d ys :=
  ⟨Loc.below h.v1 hb (Loc.lt h.v1), Loc.below h.v7 hb (Loc.lt h.v7), Loc.below h.v11 hb (Loc.lt h.v11), owns_mono' h.o hb, below_then h.b hb h.b.size, h.hp⟩
theorem set (h : GS w W p x xk O d ys) (i : Nat) (v : Value) {x2 : PW} (hx : xk.val.setIfInBounds i v = x2.val) : GS w (W.setCell ⟨p, i, none⟩ v) p x x2 O d ys := by
  have hp := h.hp
  refine ⟨Loc.other h.v1 (a := ⟨p, i, none⟩) (show w.heap.size ≠ p by omega) v, Loc.other h.v7 (a := ⟨p, i, none⟩) (show w.heap.size + 1 ≠ p by omega) v, ?_, owns_setCell (a := ⟨p, i, none⟩) h.o (owns_ne h.o h.v11 (by decide)) v, h.b.setCell (p := ⟨p, i, none⟩) (show w.heap.size ≤ p by omega) v, h.hp⟩
  have h1 := Loc.set h.v11 i v
  rw [hx] at h1
  exact h1
theorem framed (h : GS w W p x xk O d ys) {x2 : PW} {A' : Option Addr} {c' : Nat} {zs : Bs} (o : V.ownsRow w.heap.size 5 1 (.slice A' zs.length c') zs.length (cellsB zs)) (K : Keep W.heap.size (fun k => (Value.slice O ys.length d).ownBlock = some k) W V) :
    GS w (putV V p x2) p x x2 A' c' zs ∧ VLoc V p xk := by
  have hp := h.hp
  have v1 : VLoc V w.heap.size x := Loc.keep h.v1 K (Loc.lt h.v1) (owns_ne h.o h.v1 (by decide))
  have v7 : VLoc V (w.heap.size + 1) PW.zero := Loc.keep h.v7 K (Loc.lt h.v7) (owns_ne h.o h.v7 (by decide))
  have v11 : VLoc V p xk := Loc.keep h.v11 K (Loc.lt h.v11) (owns_ne h.o h.v11 (by decide))
  exact ⟨⟨putV_other v1 (by omega) x2, putV_other v7 (by omega) x2, putV_loc v11 x2, putV_own o (owns_ne o v11 (by decide)) x2, putV_below (below_keep h.b K h.b.size (fun k hk => (h.o.lt k hk).1)) (by omega) x2, h.hp⟩, v11⟩
theorem put2 {q : Nat} {c : Array Value} {u v : Value} (h : GS w W p x xk O d ys) (L : Loc W q c 104) (hq : w.heap.size ≤ q) : GS w (put2 W q u v) p x xk O d ys :=
  ⟨put2_loc h.v1 (Loc.ne h.v1 L (by decide)), put2_loc h.v7 (Loc.ne h.v7 L (by decide)), put2_loc h.v11 (Loc.ne h.v11 L (by decide)), put2_own h.o (owns_ne h.o L (by decide)), put2_below h.b hq, h.hp⟩
theorem keepP {xj : PW} (h : GS w W p x xk O d ys) (K : Keep W.heap.size (· = p) W V) (v : VLoc V p xj) : GS w V p x xj O d ys := by
  have hp := h.hp
  exact ⟨Loc.keep h.v1 K (Loc.lt h.v1) (by omega), Loc.keep h.v7 K (Loc.lt h.v7) (by omega), v, owns_keep h.o K (Nat.le_refl _) (fun k hk e => owns_ne h.o h.v11 (by decide) (e ▸ hk)), below_keep h.b K h.b.size (fun k hk => by omega), h.hp⟩
end GS

/-- The first three of them. -/
structure GSb (w W : World) (x : PW) : Prop where
  v1 : VLoc W w.heap.size x
  v7 : VLoc W (w.heap.size + 1) PW.zero
  b : Below w.heap.size w W

set_option maxRecDepth 100000 in
set_option maxHeartbeats 8000000 in
theorem r14page_any (x : PW) (pl : List PrcC) (es : List Ent) (A B : Option Addr) (ca cb : Nat) (w : World) (hrp : Row w A (prcsCells pl)) (hpo : ∀ y ∈ pl, y.ok w) (hre : Row w B (entsCells es)) (heo : ∀ y ∈ es, y.inR)
    (hpl : pl.length ≤ 140737488355328) (hel : es.length ≤ 140737488355328) (hn1 : x.number ≤ 281474976710655) (hn2 : x.mark ≤ 281474976710655) (hf : x.frames ≤ 281474976710000) (hpr : x.procs ≤ 281474976710000) (hen : x.entries ≤ 281474976710000) :
    Calls Tryz.prog 19 #[.agg x.val, .slice A pl.length ca, .slice B es.length cb] w (R14P w (pwPage x (pl.map (·.p)) es)) := by
  obtain ⟨np, hnp⟩ : ∃ np, np = pl.length := ⟨_, rfl⟩
  obtain ⟨ne, hne⟩ : ∃ ne, ne = es.length := ⟨_, rfl⟩
  rw [← hnp] at hpl ⊢
  rw [← hne] at hel ⊢
  obtain ⟨Q, hQ⟩ : ∃ Q, Q = pwPage x (pl.map (·.p)) es := ⟨_, rfl⟩
  rw [← hQ]
  have HRP := Lib.hid hrp
  have HPO := Lib.hid hpo
  have HRE := Lib.hid hre
  have HEO := Lib.hid heo
  have HNP := Lib.hid hnp
  have HNE := Lib.hid hne
  have HQ := Lib.hid hQ
  have V1 : VLoc ((w.alloc (.cells x.val 29)).alloc (.cells PW.zero.val 29)) w.heap.size x := (Loc.new w x.val 29).alloc _
  have V3 : VLoc ((w.alloc (.cells x.val 29)).alloc (.cells PW.zero.val 29)) (w.heap.size + 1) PW.zero := by
    have h := Loc.new (w.alloc (.cells x.val 29)) PW.zero.val 29
    rw [World.size_alloc] at h
    exact h
  have b1 := ((Below.refl w.heap.size w).alloc (Nat.le_refl _) (.cells x.val 29)).alloc (by simp) (.cells PW.zero.val 29)
  obtain ⟨W0, hW0⟩ : ∃ W0, W0 = ((w.alloc (.cells x.val 29)).alloc (.cells PW.zero.val 29)) := ⟨_, rfl⟩
  rw [← hW0] at V1 V3 b1
  have hsz0 : W0.heap.size = w.heap.size + 2 := by rw [hW0]; simp
  have HW0 : Hid (((w.alloc (.cells #[.int .i64 x.number, .int .i64 x.mark, .int .i64 x.frames, .int .i64 x.procs, .int .i64 x.entries, .string x.name, .string x.key, .bool x.live] 29)).alloc (.cells #[.int .i64 0, .int .i64 0, .int .i64 0, .int .i64 0, .int .i64 0, .string ⟨#[]⟩, .string ⟨#[]⟩, .bool false] 29)) = W0) := Lib.hid hW0.symm
  clear hW0 hrp hpo hre heo hnp hne hQ
  have S0 : GSb w W0 x := ⟨V1, V3, b1⟩
  clear V1 V3 b1
  cases hlv : x.live with
  | false =>
    have HX : Hid (Q = (([], x), 25)) := Lib.hid (by rw [HQ.out]; unfold pwPage; rw [if_pos hlv])
    have HLV := Lib.hid hlv
    have k1 := VLoc.cells S0.v1
    rw [hlv] at k1
    rw [hlv] at HW0
    unfold PW.val
    rw [hlv]
    clear hlv HQ
    go_enter Tryz.func19, Tryz.ntmps19
    go_upto_region 1 with (fail)
    rw [HW0.out]
    obtain ⟨k10, k11, k12, k13, k14, k15, k16, k17⟩ := k1
    have k1b := VLoc.cells S0.v1
    rw [HLV.out] at k1b
    have hres : R14P w Q (.returned (.tuple #[.slice none 0 0, .agg x.val, .int .i64 25])) (putV W0 (w.heap.size + 1) x).drew := by rw [HX.out]; exact ⟨none, 0, rfl, World.ownsRow_nil _ _ _ _, below_drewN (putV_below S0.b (Nat.le_succ w.heap.size) x) 1⟩
    have hfin : VLoc (putV W0 (w.heap.size + 1) x).drew (w.heap.size + 1) x := Loc.drew (putV_loc S0.v7 x)
    have HRES := Lib.hid hres
    have HFIN := Lib.hid hfin.cells
    obtain ⟨m0, m1, m2, m3, m4, m5, m6, m7⟩ := VLoc.cells S0.v7
    obtain ⟨f0, f1, f2, f3, f4, f5, f6, f7⟩ := VLoc.free8 S0.v7
    clear hres hfin
    go_upto_region 2 with (fail)
    go_region
    all_goals
      go_wp2
      have hres := HRES.out
      obtain ⟨e0, e1, e2, e3, e4, e5, e6, e7⟩ := HFIN.out
      unfold putV at hres e0 e1 e2 e3 e4 e5 e6 e7
      rw [HLV.out] at hres e0 e1 e2 e3 e4 e5 e6 e7
      exact bodyPost_ret (v := .tuple #[.slice none 0 0, .agg x.val, .int .i64 25]) (by simp [results, Tryz.results19, go_sem, e0, e1, e2, e3, e4, e5, e6, e7, PW.val, HLV.out]) rfl hres
  | true =>
    have HLV := Lib.hid hlv
    by_cases hcnt : np + ne = 0 ∨ 128 < np + ne
    · have HX : Hid (Q = (([], x), 1)) := Lib.hid (by rw [HQ.out]; unfold pwPage; rw [if_neg (by simp [hlv]), if_pos (by rw [List.length_map, ← HNP.out, ← HNE.out]; exact hcnt)])
      have k1 := VLoc.cells S0.v1
      rw [hlv] at k1
      rw [hlv] at HW0
      unfold PW.val
      rw [hlv]
      clear hlv HQ
      rcases hcnt with hc | hc
      · obtain rfl : np = 0 := by omega
        obtain rfl : ne = 0 := by omega
        go_enter Tryz.func19, Tryz.ntmps19
        go_upto_region 1 with (fail)
        rw [HW0.out]
        obtain ⟨k10, k11, k12, k13, k14, k15, k16, k17⟩ := k1
        have k1b := VLoc.cells S0.v1
        rw [HLV.out] at k1b
        have hres : R14P w Q (.returned (.tuple #[.slice none 0 0, .agg x.val, .int .i64 1])) (putV W0 (w.heap.size + 1) x).drew := by rw [HX.out]; exact ⟨none, 0, rfl, World.ownsRow_nil _ _ _ _, below_drewN (putV_below S0.b (Nat.le_succ w.heap.size) x) 1⟩
        have hfin : VLoc (putV W0 (w.heap.size + 1) x).drew (w.heap.size + 1) x := Loc.drew (putV_loc S0.v7 x)
        have HRES := Lib.hid hres
        have HFIN := Lib.hid hfin.cells
        obtain ⟨m0, m1, m2, m3, m4, m5, m6, m7⟩ := VLoc.cells S0.v7
        obtain ⟨f0, f1, f2, f3, f4, f5, f6, f7⟩ := VLoc.free8 S0.v7
        clear hres hfin
        go_upto_region 5 with (fail)
        go_region
        all_goals
          go_wp2
          have hres := HRES.out
          obtain ⟨e0, e1, e2, e3, e4, e5, e6, e7⟩ := HFIN.out
          unfold putV at hres e0 e1 e2 e3 e4 e5 e6 e7
          rw [HLV.out] at hres e0 e1 e2 e3 e4 e5 e6 e7
          exact bodyPost_ret (v := .tuple #[.slice none 0 0, .agg x.val, .int .i64 1]) (by simp [results, Tryz.results19, go_sem, e0, e1, e2, e3, e4, e5, e6, e7, PW.val, HLV.out]) rfl hres
      · have t1 : ¬ ((np : Int) + (ne : Int)) < 1 := by omega
        have t2 : (128 : Int) < (np : Int) + (ne : Int) := by omega
        go_enter Tryz.func19, Tryz.ntmps19
        go_upto_region 1 with (fail)
        rw [HW0.out]
        obtain ⟨k10, k11, k12, k13, k14, k15, k16, k17⟩ := k1
        have k1b := VLoc.cells S0.v1
        rw [HLV.out] at k1b
        have hres : R14P w Q (.returned (.tuple #[.slice none 0 0, .agg x.val, .int .i64 1])) (putV W0 (w.heap.size + 1) x).drew := by rw [HX.out]; exact ⟨none, 0, rfl, World.ownsRow_nil _ _ _ _, below_drewN (putV_below S0.b (Nat.le_succ w.heap.size) x) 1⟩
        have hfin : VLoc (putV W0 (w.heap.size + 1) x).drew (w.heap.size + 1) x := Loc.drew (putV_loc S0.v7 x)
        have HRES := Lib.hid hres
        have HFIN := Lib.hid hfin.cells
        obtain ⟨m0, m1, m2, m3, m4, m5, m6, m7⟩ := VLoc.cells S0.v7
        obtain ⟨f0, f1, f2, f3, f4, f5, f6, f7⟩ := VLoc.free8 S0.v7
        clear hres hfin
        go_upto_region 5 with (fail)
        go_region
        all_goals
          go_wp2
          have hres := HRES.out
          obtain ⟨e0, e1, e2, e3, e4, e5, e6, e7⟩ := HFIN.out
          unfold putV at hres e0 e1 e2 e3 e4 e5 e6 e7
          rw [HLV.out] at hres e0 e1 e2 e3 e4 e5 e6 e7
          exact bodyPost_ret (v := .tuple #[.slice none 0 0, .agg x.val, .int .i64 1]) (by simp [results, Tryz.results19, go_sem, e0, e1, e2, e3, e4, e5, e6, e7, PW.val, HLV.out]) rfl hres
    · have hq := pwPage_eq (x := x) (ps := pl.map (·.p)) (es := es) hlv (by rw [List.length_map, ← HNP.out, ← HNE.out]; exact hcnt)
      rw [← HQ.out] at hq
      have t1 : ¬ ((np : Int) + (ne : Int)) < 1 := by omega
      have t2 : ¬ (128 : Int) < (np : Int) + (ne : Int) := by omega
      have hnn : np + ne ≤ 128 := by omega
      have hH := r14head_any x W0 hn1 hn2 (by omega)
      have hbb := pwHead_b x
      obtain ⟨y1, hy1⟩ : ∃ y1, y1 = (pwHead x).1 := ⟨_, rfl⟩
      obtain ⟨x1, hx1⟩ : ∃ x1, x1 = (pwHead x).2 := ⟨_, rfl⟩
      unfold HeadP at hH
      rw [← hy1, ← hx1] at hH
      rw [← hx1, ← hy1] at hbb hq
      have HH := Lib.hid hH
      have HQ2 := Lib.hid hq
      have HBB := Lib.hid hbb
      have k1 := VLoc.cells S0.v1
      rw [hlv] at k1
      rw [hlv] at HW0
      unfold PW.val at HH ⊢
      rw [hlv] at HH ⊢
      clear hH hq hy1 hx1 hbb hlv HQ hcnt
      go_enter Tryz.func19, Tryz.ntmps19
      go_upto_region 1 with (fail)
      rw [HW0.out]
      obtain ⟨k10, k11, k12, k13, k14, k15, k16, k17⟩ := k1
      go_upto_region 7 with (go_at_call 43; refine HH.out.mono ?_; rintro e w2 ⟨A2, c2, rfl, o2, b2⟩)
      have V6 : VLoc (w2.alloc (.cells x1.val 29)) w2.heap.size x1 := Loc.new w2 x1.val _
      have ba := (Below.refl w2.heap.size w2).alloc (Nat.le_refl _) (.cells x1.val 29)
      have b2a := below_then b2 ba b2.size
      have o12 := owns_mono' (owns_mono o2 S0.b.size) ba
      have hsz2 := b2.size
      obtain ⟨p, hp6⟩ : ∃ p, p = w2.heap.size := ⟨_, rfl⟩
      obtain ⟨W2, hW2⟩ : ∃ W2, W2 = w2.alloc (.cells x1.val 29) := ⟨_, rfl⟩
      rw [← hW2] at V6 b2a o12
      rw [← hp6] at V6 hsz2
      unfold PW.val at hW2
      rw [← hW2, ← hp6]
      have G2 : GS w W2 p x x1 A2 c2 y1 := ⟨Loc.below S0.v1 b2a (Loc.lt S0.v1), Loc.below S0.v7 b2a (Loc.lt S0.v7), V6, o12, below_then S0.b b2a S0.b.size, by omega⟩
      clear hW2 hp6 V6 ba b2a o12 o2 b2 HH S0 k10 k11 k12 k13 k14 k15 k16 k17 t1 t2
      go_wp2_with (fail)
      go_loopw [10, 12] (fun a i wr => ∃ (k : Nat) (xk : PW) (ys : Bs) (O : Option Addr) (d : Nat), k ≤ np ∧ a = .slice O ys.length d ∧ i = .int .i64 k ∧ Hid (GS w wr p x xk O d ys) ∧ Hid (xk.frames ≤ x.frames + 1 + k ∧ xk.procs ≤ x.procs + k ∧ xk.entries = x.entries ∧ ys.length ≤ 100 + 27000 * k ∧ xk.number = x.number ∧ xk.mark = x.mark) ∧ Hid (pwProcs x1 y1 (pl.map (·.p)) = pwProcs xk ys ((pl.map (·.p)).drop k))) (fun _ i _ => np - (intOf i).toNat)
      case atStart => exact ⟨0, x1, y1, A2, c2, Nat.zero_le _, rfl, rfl, Lib.hid G2, Lib.hid (by have := HBB.out; omega), Lib.hid (by rw [List.drop_zero])⟩
      case round =>
        obtain ⟨wi, rfl⟩ : ∃ wi, wi = wr := ⟨_, rfl⟩
        obtain ⟨k, xk, ys, O, d, hk, rfl, rfl, SI, HBI, HPI⟩ := hrel
        clear G2
        by_cases hkn : k < np
        · have hkn' : (k : Int) < (np : Int) := by omega
          have hkI : (0 : Int) ≤ (k : Int) := by omega
          have hkl : k < pl.length := by rw [← HNP.out]; exact hkn
          have hst := HPI.out
          have hst0 := hst
          rw [pwProcs_step (by rw [List.length_map]; exact hkl), List.getElem_map] at hst
          clear hst0
          obtain ⟨b, off, hAe, hbl, hcc⟩ := HRP.out.prcs (by omega)
          have hcx := hcc k hkl
          have hyo := HPO.out pl[k] (List.getElem_mem hkl)
          obtain ⟨Y, hgetY⟩ : ∃ Y, Y = pl[k] := ⟨_, rfl⟩
          rw [← hgetY] at hcx hyo hst
          obtain ⟨⟨yn, ya, yc⟩, YA, ycp⟩ := Y
          have z0 := hcx 0 (by decide); have z1 := hcx 1 (by decide); have z2 := hcx 2 (by decide)
          simp only [PrcC.cells, procCells, List.getElem?_toArray, List.getElem?_cons_zero, List.getElem?_cons_succ, Nat.add_zero] at z0 z1 z2
          obtain ⟨nc, hnc⟩ : ∃ nc, nc = yc.length := ⟨_, rfl⟩
          rw [← hnc] at z2
          have hHSS : ∀ V, Below wi.heap.size wi V → (V.cell? ⟨p, 0, none⟩ = some (.int .i64 xk.number) ∧ V.cell? ⟨p, 1, none⟩ = some (.int .i64 xk.mark) ∧ V.cell? ⟨p, 2, none⟩ = some (.int .i64 xk.frames) ∧ V.cell? ⟨p, 3, none⟩ = some (.int .i64 xk.procs) ∧ V.cell? ⟨p, 4, none⟩ = some (.int .i64 xk.entries) ∧ V.cell? ⟨p, 5, none⟩ = some (.string xk.name) ∧ V.cell? ⟨p, 6, none⟩ = some (.string xk.key) ∧ V.cell? ⟨p, 7, none⟩ = some (.bool xk.live) ∧
              V.cell? ⟨b, off + k * 3, none⟩ = some (.string yn) ∧ V.cell? ⟨b, off + k * 3 + 1, none⟩ = some (.int .i64 ya) ∧ V.cell? ⟨b, off + k * 3 + 2, none⟩ = some (.slice YA nc ycp)) := fun V hV => by
            obtain ⟨c0, c1, c2, c3, c4, c5, c6, c7⟩ := VLoc.cells (SI.out.below hV).v11
            have hbV := below_then SI.out.b hV SI.out.b.size
            exact ⟨c0, c1, c2, c3, c4, c5, c6, c7, by rw [← z0]; exact hbV.cell (p := ⟨b, off + k * 3, none⟩) hbl, by rw [← z1]; exact hbV.cell (p := ⟨b, off + k * 3 + 1, none⟩) hbl, by rw [← z2]; exact hbV.cell (p := ⟨b, off + k * 3 + 2, none⟩) hbl⟩
          have hpr : ∀ V, Below wi.heap.size wi V → Calls Tryz.prog 47 #[.agg #[.int .i64 xk.number, .int .i64 xk.mark, .int .i64 xk.frames, .int .i64 xk.procs, .int .i64 xk.entries, .string xk.name, .string xk.key, .bool xk.live], .agg #[.string yn, .int .i64 ya, .slice YA nc ycp]] V fun e w' => e = .returned (.int .i64 (pwProcE xk ⟨yn, ya, yc⟩)) ∧ Below V.heap.size V w' := fun V hV => by
            have h := r14proc_any xk ⟨yn, ya, yc⟩ YA ycp V (hyo.below (below_then SI.out.b hV SI.out.b.size)).r hyo.l
            unfold procCells PW.val at h
            simp only at h
            rw [← hnc] at h
            exact h
          have hen6 : ∀ V, Below wi.heap.size wi V → Calls Tryz.prog 48 #[.agg #[.string yn, .int .i64 ya, .slice YA nc ycp]] V (RE (procEncode ⟨yn, ya, yc⟩) V) := fun V hV => by
            have h := refEncode_any ⟨yn, ya, yc⟩ YA ycp V (hyo.below (below_then SI.out.b hV SI.out.b.size)).r hyo.l hyo.i
            unfold procCells at h
            simp only at h
            rw [← hnc] at h
            exact h
          obtain ⟨E, hE⟩ : ∃ E, E = pwProcE xk ⟨yn, ya, yc⟩ := ⟨_, rfl⟩
          simp only at hst
          rw [← hE] at hpr hst
          have HST := Lib.hid hst
          have HE := Lib.hid hE
          have HSS := Lib.hid hHSS
          have HPR := Lib.hid hpr
          have HEN := Lib.hid hen6
          have HAE := Lib.hid hAe
          have bd : Below wi.heap.size wi wi.drew := below_drewN (Below.refl _ _) 1
          obtain ⟨s0, s1, s2, s3, s4, s5, s6, s7, s8, s9, s10⟩ := hHSS wi (Below.refl _ _)
          clear hst hE hHSS hpr hen6 hcc hcx hyo z0 z1 z2 hnc hbl
          rw [HAE.out]
          go_upto_region 10 with (fail)
          go_region_held3 (fun V => V.cell? ⟨p, 0, none⟩ = some (.int .i64 xk.number) ∧ V.cell? ⟨p, 1, none⟩ = some (.int .i64 xk.mark) ∧ V.cell? ⟨p, 2, none⟩ = some (.int .i64 xk.frames) ∧ V.cell? ⟨p, 3, none⟩ = some (.int .i64 xk.procs) ∧ V.cell? ⟨p, 4, none⟩ = some (.int .i64 xk.entries) ∧ V.cell? ⟨p, 5, none⟩ = some (.string xk.name) ∧ V.cell? ⟨p, 6, none⟩ = some (.string xk.key) ∧ V.cell? ⟨p, 7, none⟩ = some (.bool xk.live) ∧ V.cell? ⟨b, off + k * 3, none⟩ = some (.string yn) ∧ V.cell? ⟨b, off + k * 3 + 1, none⟩ = some (.int .i64 ya) ∧ V.cell? ⟨b, off + k * 3 + 2, none⟩ = some (.slice YA nc ycp)) ((first | (with_reducible exact HSS.out _ b5') | exact HSS.out _ bd | exact HSS.out _ (Below.refl _ _))) ((go_at_call 47; refine (HPR.out _ bd).mono ?_; rintro e w5 ⟨rfl, b5⟩; have b5' := below_then bd b5 (Nat.le_refl _)))
          have S5 := SI.out.below b5'
          clear s0 s1 s2 s3 s4 s5 s6 s7 s8 s9 s10 bd HPR
          by_cases hE0 : E = 0
          · subst hE0
            have hE1 : pwProcE xk ⟨yn, ya, yc⟩ = 0 := HE.out.symm
            have hok := (pwProcE_zero hE1).1
            have hst := HST.out
            rw [if_neg (by simp)] at hst
            have hbl := procBytes_le' hok
            obtain ⟨bs, hbs⟩ : ∃ bs, bs = procBytes ⟨yn, ya, yc⟩ := ⟨_, rfl⟩
            rw [← hbs] at hbl
            have hen7 : Calls Tryz.prog 48 #[.agg #[.string yn, .int .i64 ya, .slice YA nc ycp]] w5 fun e w' => ∃ A' c', e = .returned (.tuple #[.slice A' bs.length c', .int .i64 0]) ∧ w'.ownsRow w5.heap.size 5 1 (.slice A' bs.length c') bs.length (cellsB bs) ∧ Below w5.heap.size w5 w' := by
              have h := HEN.out w5 b5'
              rw [procEncode_ok hok, ← hbs] at h
              exact h
            have HEN7 := Lib.hid hen7
            obtain ⟨_, _, _, _, _, _, _, _, s8, s9, s10⟩ := HSS.out w5 b5'
            obtain ⟨q0, hq0⟩ : ∃ q0, q0 = bodyF 2 xk.frames [] := ⟨_, rfl⟩
            obtain ⟨q1, hq1⟩ : ∃ q1, q1 = q0 ++ encText bs := ⟨_, rfl⟩
            have hq0l : q0.length ≤ 11 := by rw [hq0]; exact (bodyF_le 2 xk.frames []).2
            have hq1l : q1.length ≤ 27000 := by rw [hq1, List.length_append]; have := encText_le bs; omega
            obtain ⟨zf, hzf⟩ : ∃ zf, zf = ys ++ procFrame xk ⟨yn, ya, yc⟩ := ⟨_, rfl⟩
            have HZF : Hid (zf = ys ++ (headB q1 ++ q1)) := Lib.hid (by
              have e : bodyF 2 xk.frames (encText bs) = q1 := by rw [bodyF_more, hq1, hq0]
              rw [hzf]; unfold procFrame frameB; rw [← hbs, e])
            have HBE : Hid (∀ V, Calls Tryz.prog 44 #[.int .u8 2, .int .i64 xk.frames] V (RW q0 V)) := Lib.hid (fun V => by
              rw [hq0]; exact begun_any 2 xk.frames (by have := HBI.out; omega) V)
            have HTX : Hid (∀ A c (U V : World), V.ownsRow U.heap.size 5 1 (.slice A q0.length c) q0.length (cellsB q0) → Calls Tryz.prog 49 #[.agg #[.slice A q0.length c, .int .i64 0], .string ⟨bs.toArray⟩] V (RW q1 V)) := Lib.hid (fun A c U V o => by
              have h := rwtext_any A q0.length c q0 ⟨bs.toArray⟩ V (Row.of_owns o) rfl (owns_none o) (by show q0.length + bs.toArray.size + 10 ≤ _; rw [List.size_toArray]; omega)
              rw [show (⟨bs.toArray⟩ : ByteArray).data.toList = bs from rfl, ← hq1] at h
              exact h)
            have HST2 : Hid (pwProcs x1 y1 (pl.map (·.p)) = pwProcs (pwProc xk ⟨yn, ya, yc⟩) zf ((pl.map (·.p)).drop (k + 1))) := Lib.hid (by rw [hzf]; exact hst)
            have HPF := Lib.hid (procFrame_le hE1)
            have HZL : Hid (zf.length = ys.length + (procFrame xk ⟨yn, ya, yc⟩).length) := Lib.hid (by rw [hzf, List.length_append])
            clear hst hE1 hok hbs hq0 hq1 hzf HE HST HEN hen7
            go_upto_region 14 with (go_at_call 48; refine HEN7.out.mono ?_; rintro e w6 ⟨A6, c6, rfl, o6, b6⟩)
            have S6 := S5.below b6
            have b56 := below_then b5' b6 b5'.size
            have HCV : Hid (∀ V, Below w6.heap.size w6 V → (convert 33 9 (.slice A6 bs.length c6)).run Tryz.prog V = .ok (.string ⟨bs.toArray⟩) V) := Lib.hid (fun V hV => run_ofBytes (P := Tryz.prog) 33 9 5 Tryz.underlying33 Tryz.underlying5 Tryz.underlying9 (W := V) (A := A6) (xs := bs) bs.length c6 rfl ((Row.of_owns o6).of_below hV (Nat.le_refl _)) (owns_none o6))
            have s2 := (VLoc.cells S6.v11).2.2.1
            have bd : Below w6.heap.size w6 w6.drew := below_drewN (Below.refl _ _) 1
            have cv0 := HCV.out w6.drew bd
            have cv1 := HCV.out w6 (Below.refl _ _)
            clear s8 s9 s10 o6 b6 HEN7 S5
            have S6d := S6.below bd
            have HS6 : Hid (∀ V, Below w6.heap.size w6 V → GS w V p x xk O d ys) := Lib.hid (fun V hV => S6.below hV)
            have hw6 : w.heap.size ≤ w6.heap.size := S6.b.size
            have bda : Below w6.heap.size w6 (w6.alloc (.cells #[.slice none 0 0, .int .i64 0] 104)).drew := ((Below.refl w6.heap.size w6).alloc (Nat.le_refl _) (.cells #[.slice none 0 0, .int .i64 0] 104)).drew
            have cva := HCV.out _ bda
            have s2a : (w6.alloc (.cells #[.slice none 0 0, .int .i64 0] 104)).drew.cell? ⟨p, 2, none⟩ = some (.int .i64 xk.frames) := (VLoc.cells (S6.below bda).v11).2.2.1
            have LA0 : Loc (w6.alloc (.cells #[.slice none 0 0, .int .i64 0] 104)).drew w6.heap.size #[.slice none 0 0, .int .i64 0] 104 := (Loc.new w6 _ _).drew
            clear S6d
            go_cut [16] from 45 to 92 (fun v wx => ∃ (q : Nat) (A8 : Option Addr) (c8 : Nat), v = .pointer (some ⟨q, 0, none⟩) ∧ Hid (GS w wx p x xk O d ys) ∧ BW w.heap.size wx q A8 c8 q1 ∧ w.heap.size ≤ q ∧ Hid (Below w6.heap.size w6 wx))
            case first =>
              refine wp_region_noPanic ?_
              go_region_law ((first | (go_simp; go_at_call 44; refine (HBE.out _).mono ?_; rintro e7 w7 ⟨A7, c7, rfl, o7, b7⟩; have b7' : Below w6.heap.size w6 w7 := (by first | exact below_then bd b7 (Nat.le_refl _) | exact below_then bda b7 (by simp)); have cv7 := HCV.out w7 b7'; have b7a := b7'.alloc b7'.size (.cells #[.slice none 0 0, .int .i64 0] 104); have cv7a := HCV.out _ b7a; have LA7 := Loc.new w7 #[.slice none 0 0, .int .i64 0] 104; have hw7 : w.heap.size ≤ w7.heap.size := Nat.le_trans hw6 b7'.size; have hw7a : w.heap.size ≤ (w7.alloc (.cells #[.slice none 0 0, .int .i64 0] 104)).heap.size := Nat.le_trans hw6 b7a.size; (try have L7 := Loc.below LA0 b7 LA0.lt)) | (go_simp; go_at_call 49; (first | refine (HTX.out _ _ _ _ o7).mono ?_ | refine (HTX.out _ _ _ _ (owns_mono' o7 ((Below.refl w7.heap.size w7).alloc (Nat.le_refl _) (.cells #[.slice none 0 0, .int .i64 0] 104)))).mono ?_); rintro e8 w8 ⟨A8, c8, rfl, o8, b8⟩; have b8' : Below w6.heap.size w6 w8 := (by first | exact below_then b7' b8 b7'.size | exact below_then b7a b8 b7a.size); (try have L8 := Loc.below L7 b8 L7.lt); (try have L8 := Loc.below LA7 b8 LA7.lt); (try have u0 := L8.cell 0); (try have u1 := L8.cell 1); (try have g0 := L8.free 0); (try have g1 := L8.free 1); (try simp only [List.getElem?_toArray, List.getElem?_cons_zero, List.getElem?_cons_succ] at u0 u1))))
              all_goals
                refine NoPanic.normal ?_
                go_wp2
                go_meet
                case rel =>
                  first
                    | exact ⟨w8.heap.size, A8, c8, rfl, Lib.hid ((HS6.out _ b8').below ((Below.refl w8.heap.size w8).alloc (Nat.le_refl _) _)), ⟨Loc.new w8 _ _, owns_mono' (owns_mono o8 (by first | exact hw7 | exact hw7a)) ((Below.refl w8.heap.size w8).alloc (Nat.le_refl _) _)⟩, Nat.le_trans hw6 b8'.size, Lib.hid (b8'.alloc b8'.size _)⟩
                    | exact ⟨w7.heap.size, A8, c8, rfl, Lib.hid ((HS6.out _ b8').put2 L8 hw7), ⟨(ws_put L8 (owns_mono o8 (by first | exact hw7 | exact hw7a))).1, (ws_put L8 (owns_mono o8 (by first | exact hw7 | exact hw7a))).2⟩, hw7, Lib.hid (put2_below b8' b7'.size)⟩
                    | exact ⟨w6.heap.size, A8, c8, rfl, Lib.hid ((HS6.out _ b8').put2 L8 hw6), ⟨(ws_put L8 (owns_mono o8 (by first | exact hw7 | exact hw7a))).1, (ws_put L8 (owns_mono o8 (by first | exact hw7 | exact hw7a))).2⟩, hw6, Lib.hid (put2_below b8' (Nat.le_refl _))⟩
            case rest =>
              obtain ⟨q, A8, c8, rfl, HG8, BW8, hq, hb8⟩ := hcut
              have b58 := below_then b56 hb8.out b56.size
              obtain ⟨_, _, _, _, _, _, _, _, s8, s9, s10⟩ := HSS.out wc b58
              obtain ⟨_, _, _, t33, _, t35, _, _⟩ := VLoc.cells HG8.out.v11
              obtain ⟨_, _, _, f3, _, f5, _, _⟩ := VLoc.free8 HG8.out.v11
              have hpq : q ≠ p := Loc.ne BW8.t HG8.out.v11 (by decide)
              obtain ⟨xm, hxm⟩ : ∃ xm : PW, xm = { xk with name := yn } := ⟨_, rfl⟩
              obtain ⟨xn, hxn⟩ : ∃ xn : PW, xn = { xm with procs := xk.procs + 1 } := ⟨_, rfl⟩
              obtain ⟨x3, hx3⟩ : ∃ x3 : PW, x3 = { xn with frames := xn.frames + 1 } := ⟨_, rfl⟩
              have G9 := (HG8.out.set 5 (.string yn) (x2 := xm) (by rw [hxm]; rfl)).set 3 (.int .i64 ((xk.procs : Int) + 1)) (x2 := xn) (by rw [hxn, hxm]; rfl)
              have BW9 : BW w.heap.size ((wc.setCell ⟨p, 5, none⟩ (.string yn)).setCell ⟨p, 3, none⟩ (.int .i64 ((xk.procs : Int) + 1))) q A8 c8 q1 := by
                have o1 := owns_setCell (a := ⟨p, 5, none⟩) BW8.o (owns_ne BW8.o HG8.out.v11 (by decide)) (.string yn)
                have v1 := HG8.out.set 5 (.string yn) (x2 := xm) (by rw [hxm]; rfl)
                exact ⟨Loc.other (Loc.other BW8.t (a := ⟨p, 5, none⟩) hpq _) (a := ⟨p, 3, none⟩) hpq _, owns_setCell (a := ⟨p, 3, none⟩) o1 (owns_ne o1 v1.v11 (by decide)) _⟩
              have HX3 : Hid (x3 = pwProc xk ⟨yn, ya, yc⟩) := Lib.hid (by rw [hx3, hxn, hxm]; rfl)
              have HXN : Hid (xn.frames = xk.frames ∧ xn.number = xk.number ∧ xn.mark = xk.mark ∧ xn.entries = xk.entries ∧ xn.procs = xk.procs + 1) := Lib.hid (by rw [hxn, hxm]; exact ⟨rfl, rfl, rfl, rfl, rfl⟩)
              have HXF : Hid (x3.frames = xk.frames + 1 ∧ x3.procs = xk.procs + 1 ∧ x3.entries = xk.entries ∧ x3.number = xk.number ∧ x3.mark = xk.mark) := Lib.hid (by rw [hx3, hxn, hxm]; exact ⟨rfl, rfl, rfl, rfl, rfl⟩)
              have HHX := Lib.hid hx3
              clear hxm hxn hx3 b56 HS6 hw6 bda cva s2a LA0 cv0 cv1 HCV s2 bd S6 HSS HTX HBE b58
              have hxkp : xk.procs ≤ 281474976710655 := by have := HBI.out; omega
              go_upto_region 17 with (fail)
              obtain ⟨W9, hW9⟩ : ∃ W9, W9 = (wc.setCell ⟨p, 5, none⟩ (.string yn)).setCell ⟨p, 3, none⟩ (.int .i64 ((xk.procs : Int) + 1)) := ⟨_, rfl⟩
              rw [← hW9] at G9 BW9
              rw [← hW9]
              have HFR := Lib.hid (framedQ_any xn x3 HHX.out O A8 ys.length q1.length d c8 w.heap.size ys q1 zf HZF.out W9 G9.o G9.b.size rfl (Row.of_owns BW9.o) rfl (owns_none BW9.o) (by omega) (by have := HBI.out; omega) (by have := HBI.out; have := HXN.out; omega))
              obtain ⟨k10, k11, k12, k13, k14, k15, k16, k17⟩ := VLoc.cells G9.v11
              have c60 := BW9.t.cell 0
              simp only [List.getElem?_toArray, List.getElem?_cons_zero] at c60
              clear hW9 t33 t35 f3 f5 s8 s9 s10 HG8 BW8 hb8 b5' hxkp
              go_wp2_with (go_at_call 46; refine HFR.out.mono ?_; rintro e w10 ⟨A10, c10, rfl, o10, K10⟩; obtain ⟨G10, v10⟩ := G9.framed (x2 := x3) o10 K10; obtain ⟨m0, m1, m2, m3, m4, m5, m6, m7⟩ := v10.cells; obtain ⟨f0, f1, f2, f3, f4, f5, f6, f7⟩ := v10.free8)
              unfold putV at G10
              go_roundw
              case rel =>
                have h1 := HBI.out
                have h2 := HPF.out
                have h3 := HZL.out
                have h4 := HXF.out
                exact ⟨k + 1, x3, zf, A10, c10, by omega, rfl, by go_num, Lib.hid G10, Lib.hid (by omega), Lib.hid (by rw [HX3.out]; exact HST2.out)⟩
              case measure => simp [intOf]; omega
          · have t3 : (E != 0) = true := by simpa using hE0
            have HX : Hid (Q = (([], x), E)) := Lib.hid (by
              rw [HQ2.out, HST.out, if_pos hE0]
              unfold pwTail
              rw [if_pos hE0])
            clear hE0
            have k1 := VLoc.cells S5.v1
            rw [HLV.out] at k1
            have hres : R14P w Q (.returned (.tuple #[.slice none 0 0, .agg x.val, .int .i64 E])) (putV w5 (w.heap.size + 1) x).drew := by rw [HX.out]; exact ⟨none, 0, rfl, World.ownsRow_nil _ _ _ _, below_drewN (putV_below S5.b (Nat.le_succ w.heap.size) x) 1⟩
            have hfin : VLoc (putV w5 (w.heap.size + 1) x).drew (w.heap.size + 1) x := Loc.drew (putV_loc S5.v7 x)
            have HRES := Lib.hid hres
            have HFIN := Lib.hid hfin.cells
            obtain ⟨k10, k11, k12, k13, k14, k15, k16, k17⟩ := k1
            obtain ⟨m0, m1, m2, m3, m4, m5, m6, m7⟩ := VLoc.cells S5.v7
            obtain ⟨f0, f1, f2, f3, f4, f5, f6, f7⟩ := VLoc.free8 S5.v7
            clear hres hfin
            go_upto_region 12 with (fail)
            go_region
            all_goals
              go_wp2
              have hres := HRES.out
              obtain ⟨e0, e1, e2, e3, e4, e5, e6, e7⟩ := HFIN.out
              unfold putV at hres e0 e1 e2 e3 e4 e5 e6 e7
              rw [HLV.out] at hres e0 e1 e2 e3 e4 e5 e6 e7
              exact bodyPost_ret (v := .tuple #[.slice none 0 0, .agg x.val, .int .i64 E]) (by simp [results, Tryz.results19, go_sem, e0, e1, e2, e3, e4, e5, e6, e7, PW.val, HLV.out]) rfl hres
        · obtain rfl : k = np := by omega
          have hkn' : ¬ (k : Int) < (k : Int) := by omega
          have hpp := HPI.out
          rw [List.drop_eq_nil_of_le (by rw [List.length_map, ← HNP.out]; exact Nat.le_refl _), pwProcs] at hpp
          have hq := HQ2.out
          rw [hpp] at hq
          unfold pwTail at hq
          simp only at hq
          rw [if_neg (by simp), ← HNE.out] at hq
          have HQ3 := Lib.hid hq
          have hxkf : xk.frames ≤ 281474976710655 := by have := HBI.out; omega
          clear hpp hq HPI HQ2
          by_cases hne0 : ne = 0
          · have hE0 : pwEnts xk es = (xk, 0) := by
              have : es = [] := List.length_eq_zero_iff.1 (by rw [← HNE.out]; exact hne0)
              rw [this]; rfl
            have HX : Hid (Q = ((ys, xk), 0)) := Lib.hid (by rw [HQ3.out, hE0, if_neg (by simp), if_pos hne0])
            subst hne0
            have SW := SI.out
            clear hE0 HQ3
            have hres : R14P w Q (.returned (.tuple #[.slice O ys.length d, .agg xk.val, .int .i64 0])) (putV wi (w.heap.size + 1) xk).drew := by rw [HX.out]; exact ⟨O, d, rfl, owns_mono' (putV_own SW.o (owns_ne SW.o SW.v7 (by decide)) xk) (below_drewN (Below.refl _ _) 1), below_drewN (putV_below SW.b (Nat.le_succ w.heap.size) xk) 1⟩
            have hfin : VLoc (putV wi (w.heap.size + 1) xk).drew (w.heap.size + 1) xk := Loc.drew (putV_loc SW.v7 xk)
            have HRES := Lib.hid hres
            have HFIN := Lib.hid hfin.cells
            obtain ⟨k10, k11, k12, k13, k14, k15, k16, k17⟩ := VLoc.cells SW.v11
            obtain ⟨m0, m1, m2, m3, m4, m5, m6, m7⟩ := VLoc.cells SW.v7
            obtain ⟨f0, f1, f2, f3, f4, f5, f6, f7⟩ := VLoc.free8 SW.v7
            clear hres hfin
            go_upto_region 19 with (fail)
            go_region
            all_goals
              go_wp2
              have hres := HRES.out
              obtain ⟨e0, e1, e2, e3, e4, e5, e6, e7⟩ := HFIN.out
              unfold putV at hres e0 e1 e2 e3 e4 e5 e6 e7
              exact bodyPost_ret (v := .tuple #[.slice O ys.length d, .agg xk.val, .int .i64 0]) (by simp [results, Tryz.results19, go_sem, e0, e1, e2, e3, e4, e5, e6, e7, PW.val]) rfl hres
          · have tn : ¬ ((ne : Int) = 0) := by omega
            have HNE0 := Lib.hid hne0
            have SW := SI.out
            have s2 := (VLoc.cells SW.v11).2.2.1
            obtain ⟨q0, hq0⟩ : ∃ q0, q0 = bodyF 3 xk.frames [] := ⟨_, rfl⟩
            obtain ⟨q1, hq1⟩ : ∃ q1, q1 = q0 ++ encNumber (ne : Int) := ⟨_, rfl⟩
            have hq0l : q0.length ≤ 11 := by rw [hq0]; exact (bodyF_le 3 xk.frames []).2
            have hq1l : q1.length ≤ 21 := by rw [hq1, List.length_append]; have := encNumber_le (ne : Int); omega
            have HBE : Hid (Calls Tryz.prog 44 #[.int .u8 3, .int .i64 xk.frames] wi (RW q0 wi)) := Lib.hid (by rw [hq0]; exact begun_any 3 xk.frames hxkf wi)
            have HNU : Hid (∀ A c (U V : World), V.ownsRow U.heap.size 5 1 (.slice A q0.length c) q0.length (cellsB q0) → Calls Tryz.prog 45 #[.agg #[.slice A q0.length c, .int .i64 0], .int .i64 ne] V (RW q1 V)) := Lib.hid (fun A c U V o => by
              rw [hq1]
              exact rwnumber_any A q0.length c q0 ne V (Row.of_owns o) rfl (owns_none o) (by omega) (by omega) (by omega))
            have HEF : Hid (∀ xj : PW, xj.frames = xk.frames → ∀ bs, bs = q1 ++ es.flatMap entBytes → headB bs ++ bs = entsFrame xj es) := Lib.hid (fun xj h1 bs h2 => by
              have e : bodyF 3 xj.frames (entsBytes es) = bs := by rw [bodyF_more, h1, h2, hq1, hq0]; unfold entsBytes; rw [← HNE.out, List.append_assoc]
              unfold entsFrame frameB
              rw [e])
            clear hq0 hq1 hne0
            go_upto_region 21 with (first | (go_at_call 44; refine HBE.out.mono ?_; rintro e w3 ⟨A3, c3, rfl, o3, b3⟩) | (go_at_call 45; refine (HNU.out _ _ _ _ o3).mono ?_; rintro e w4 ⟨A4, c4, rfl, o4, b4⟩))
            have ba := (Below.refl w4.heap.size w4).alloc (Nat.le_refl _) (.cells #[.slice A4 q1.length c4, .int .i64 0] 104)
            have b4a := below_then (below_then b3 b4 b3.size) ba (below_then b3 b4 b3.size).size
            have G4 := SW.below b4a
            have L4 := Loc.new w4 #[.slice A4 q1.length c4, .int .i64 0] 104
            have hsrc := ((Row.of_owns o4).of_below ba (Nat.le_refl _)).src (P := Tryz.prog) (size := 1) (n := q1.length) (c := c4) (tx := 33) Tryz.underlying33 (by rw [cellsB_length]; omega) (cellsB_one q1) (owns_none o4)
            obtain ⟨q, hq⟩ : ∃ q, q = w4.heap.size := ⟨_, rfl⟩
            obtain ⟨W4, hW4⟩ : ∃ W4, W4 = w4.alloc (.cells #[.slice A4 q1.length c4, .int .i64 0] 104) := ⟨_, rfl⟩
            rw [← hW4] at G4 L4 hsrc
            rw [← hq] at L4
            rw [← hW4, ← hq]
            have HSRC := Lib.hid hsrc
            have c40 := L4.cell 0
            simp only [List.getElem?_toArray, List.getElem?_cons_zero] at c40
            clear hW4 hq ba b4a b3 b4 o3 o4 HBE HNU SI SW s2 hsrc L4
            go_upto_region 22 with (fail)
            go_wp2_with (at_builtin; refine wpList_append_mine _ rfl _ _ 33 33 rfl 5 (.int .u8 0) 1 1 Tryz.underlying33 infoU8 rfl (by decide) (.slice none 0 0) 0 [] rfl (World.ownsRow_nil _ _ _ _) (.slice A4 q1.length c4) q1.length (cellsB q1) rfl HSRC.out (by unfold maxLen; omega) (by omega) ?_; intro A5 c5 w5 hown5 hg5 hb5 hx5; obtain ⟨o5, b5⟩ := own_next0 (World.ownsRow_nil _ W4.heap.size _ _) hown5 hg5 hb5 (Nat.le_refl _) (Below.refl W4.heap.size W4); rw [Nat.zero_add, List.nil_append] at o5; clear hx5 hg5 hb5 hown5)
            go_loopw [18, 19] (fun a i wr => ∃ (j : Nat) (xj : PW) (bs : Bs) (Bd : Option Addr) (db : Nat), j ≤ ne ∧ a = .slice Bd bs.length db ∧ i = .int .i64 j ∧ Hid (Keep W4.heap.size (· = p) W4 wr) ∧ Hid (VLoc wr p xj) ∧ Hid (wr.ownsRow W4.heap.size 5 1 (.slice Bd bs.length db) bs.length (cellsB bs)) ∧
                Hid (bs.length ≤ 100 + 500 * j ∧ xj.frames = xk.frames ∧ xj.entries ≤ x.entries + j) ∧ Hid (pwEnts xk es = pwEnts xj (es.drop j)) ∧ Hid (bs = q1 ++ (es.take j).flatMap entBytes)) (fun _ i _ => ne - (intOf i).toNat)
            case atStart => exact ⟨0, xk, q1, A5, c5, Nat.zero_le _, rfl, rfl, Lib.hid (Keep.of_below b5 _), Lib.hid (Loc.below G4.v11 b5 (Loc.lt G4.v11)), Lib.hid o5, Lib.hid (by have := HBI.out; omega), Lib.hid (by rw [List.drop_zero]), Lib.hid (by rw [List.take_zero]; simp)⟩
            case round =>
              obtain ⟨wj, rfl⟩ : ∃ wj, wj = wr := ⟨_, rfl⟩
              obtain ⟨j, xj, bs, Bd, db, hj, rfl, rfl, HK, HV, HO, HBJ, HPJ, HBS⟩ := hrel
              clear o5 b5
              have Gj := G4.keepP HK.out HV.out
              by_cases hjn : j < ne
              · have hjn' : (j : Int) < (ne : Int) := by omega
                have hjI : (0 : Int) ≤ (j : Int) := by omega
                have hjl : j < es.length := by rw [← HNE.out]; exact hjn
                have hst := HPJ.out
                rw [pwEnts_step hjl] at hst
                obtain ⟨b, off, hBe, hbl, hcc⟩ := HRE.out.ents (by omega)
                have hcx := hcc j hjl
                have hyo := HEO.out es[j] (List.getElem_mem hjl)
                have htk : (es.take (j + 1)).flatMap entBytes = (es.take j).flatMap entBytes ++ entBytes es[j] := by rw [List.take_succ_eq_append_getElem hjl, List.flatMap_append]; simp
                obtain ⟨Y, hgetY⟩ : ∃ Y, Y = es[j] := ⟨_, rfl⟩
                rw [← hgetY] at hcx hyo hst htk
                obtain ⟨yk, ⟨vk, vn, vt⟩⟩ := Y
                have z0 := hcx 0 (by decide); have z1 := hcx 1 (by decide); have z2 := hcx 2 (by decide); have z3 := hcx 3 (by decide)
                simp only [Ent.cells, List.getElem?_toArray, List.getElem?_cons_zero, List.getElem?_cons_succ, Nat.add_zero] at z0 z1 z2 z3
                have hHSS : ∀ V, Below wj.heap.size wj V → (V.cell? ⟨p, 0, none⟩ = some (.int .i64 xj.number) ∧ V.cell? ⟨p, 1, none⟩ = some (.int .i64 xj.mark) ∧ V.cell? ⟨p, 2, none⟩ = some (.int .i64 xj.frames) ∧ V.cell? ⟨p, 3, none⟩ = some (.int .i64 xj.procs) ∧ V.cell? ⟨p, 4, none⟩ = some (.int .i64 xj.entries) ∧ V.cell? ⟨p, 5, none⟩ = some (.string xj.name) ∧ V.cell? ⟨p, 6, none⟩ = some (.string xj.key) ∧ V.cell? ⟨p, 7, none⟩ = some (.bool xj.live) ∧
                    V.cell? ⟨b, off + j * 4, none⟩ = some (.string yk) ∧ V.cell? ⟨b, off + j * 4 + 1, none⟩ = some (.int .i64 vk) ∧ V.cell? ⟨b, off + j * 4 + 2, none⟩ = some (.int .i64 vn) ∧ V.cell? ⟨b, off + j * 4 + 3, none⟩ = some (.string vt)) := fun V hV => by
                  obtain ⟨c0, c1, c2, c3, c4, c5, c6, c7⟩ := VLoc.cells (Gj.below hV).v11
                  have hbV := below_then Gj.b hV Gj.b.size
                  exact ⟨c0, c1, c2, c3, c4, c5, c6, c7, by rw [← z0]; exact hbV.cell (p := ⟨b, off + j * 4, none⟩) hbl, by rw [← z1]; exact hbV.cell (p := ⟨b, off + j * 4 + 1, none⟩) hbl, by rw [← z2]; exact hbV.cell (p := ⟨b, off + j * 4 + 2, none⟩) hbl, by rw [← z3]; exact hbV.cell (p := ⟨b, off + j * 4 + 3, none⟩) hbl⟩
                have hpr : ∀ V, Calls Tryz.prog 50 #[.agg #[.int .i64 xj.number, .int .i64 xj.mark, .int .i64 xj.frames, .int .i64 xj.procs, .int .i64 xj.entries, .string xj.name, .string xj.key, .bool xj.live], .agg #[.string yk, .int .i64 vk, .int .i64 vn, .string vt]] V fun e w' => e = .returned (.int .i64 (pwEntE xj ⟨yk, ⟨vk, vn, vt⟩⟩)) ∧ Below V.heap.size V w' := fun V => r14entry_any xj ⟨yk, ⟨vk, vn, vt⟩⟩ V
                obtain ⟨E, hE⟩ : ∃ E, E = pwEntE xj ⟨yk, ⟨vk, vn, vt⟩⟩ := ⟨_, rfl⟩
                rw [← hE] at hpr hst
                have HST := Lib.hid hst
                have HE := Lib.hid hE
                have HSS := Lib.hid hHSS
                have HPR := Lib.hid hpr
                have HBE := Lib.hid hBe
                have HTK := Lib.hid htk
                have HYO := Lib.hid hyo
                have HZB := Lib.hid (And.intro z0 hbl)
                have bd : Below wj.heap.size wj wj.drew := below_drewN (Below.refl _ _) 1
                obtain ⟨s0, s1, s2, s3, s4, s5, s6, s7, s8, s9, s10, s11⟩ := hHSS wj (Below.refl _ _)
                clear hst hE hHSS hpr hcc hcx hyo z0 z1 z2 z3 hbl htk hgetY
                rw [HBE.out]
                go_upto_region 26 with (fail)
                go_region_held3 (fun V => V.cell? ⟨p, 0, none⟩ = some (.int .i64 xj.number) ∧ V.cell? ⟨p, 1, none⟩ = some (.int .i64 xj.mark) ∧ V.cell? ⟨p, 2, none⟩ = some (.int .i64 xj.frames) ∧ V.cell? ⟨p, 3, none⟩ = some (.int .i64 xj.procs) ∧ V.cell? ⟨p, 4, none⟩ = some (.int .i64 xj.entries) ∧ V.cell? ⟨p, 5, none⟩ = some (.string xj.name) ∧ V.cell? ⟨p, 6, none⟩ = some (.string xj.key) ∧ V.cell? ⟨p, 7, none⟩ = some (.bool xj.live) ∧ V.cell? ⟨b, off + j * 4, none⟩ = some (.string yk) ∧ V.cell? ⟨b, off + j * 4 + 1, none⟩ = some (.int .i64 vk) ∧ V.cell? ⟨b, off + j * 4 + 2, none⟩ = some (.int .i64 vn) ∧ V.cell? ⟨b, off + j * 4 + 3, none⟩ = some (.string vt)) ((first | (with_reducible exact HSS.out _ b5') | exact HSS.out _ bd | exact HSS.out _ (Below.refl _ _))) ((go_at_call 50; refine (HPR.out _).mono ?_; rintro e w5 ⟨rfl, b5⟩; have b5' := below_then bd b5 (Nat.le_refl _)))
                have S5 := Gj.below b5'
                clear s0 s1 s2 s3 s4 s5 s6 s7 s8 s9 s10 s11 bd HPR
                by_cases hE0 : E = 0
                · subst hE0
                  have hE1 : pwEntE xj ⟨yk, ⟨vk, vn, vt⟩⟩ = 0 := HE.out.symm
                  obtain ⟨hk1, hd1, _, _⟩ := pwEntE_zero hE1
                  have hkz : yk.size ≤ 64 := by simp only at hk1; unfold isKey at hk1; simp at hk1; omega
                  have hst := HST.out
                  rw [if_neg (by simp)] at hst
                  have hdl := datumBytes_le hd1
                  obtain ⟨dl, hdlE⟩ : ∃ dl, dl = datumBytes ⟨vk, vn, vt⟩ := ⟨_, rfl⟩
                  have hen7 : Calls Tryz.prog 51 #[.agg #[.int .i64 vk, .int .i64 vn, .string vt]] w5 fun e w' => ∃ A' c', e = .returned (.tuple #[.slice A' dl.length c', .int .i64 0]) ∧ w'.ownsRow w5.heap.size 5 1 (.slice A' dl.length c') dl.length (cellsB dl) ∧ Below w5.heap.size w5 w' := by
                    have h := rdenc_any ⟨vk, vn, vt⟩ w5 (by have h := HYO.out.2; unfold i64R at h; unfold i64v; omega)
                    rw [show datumEncode ⟨vk, vn, vt⟩ = (datumBytes ⟨vk, vn, vt⟩, 0) by unfold datumEncode; rw [if_pos hd1], ← hdlE] at h
                    exact h
                  have HEN7 := Lib.hid hen7
                  obtain ⟨r0, hr0⟩ : ∃ r0, r0 = encText yk.data.toList := ⟨_, rfl⟩
                  obtain ⟨r1, hr1⟩ : ∃ r1, r1 = r0 ++ encText dl := ⟨_, rfl⟩
                  have hr0l : r0.length ≤ 80 := by rw [hr0]; have := encText_le yk.data.toList; have e : yk.data.toList.length = yk.size := size_data yk; omega
                  have hr1l : r1.length ≤ 400 := by rw [hr1, List.length_append]; have := encText_le dl; rw [← hdlE] at hdl; omega
                  have HR1 : Hid (r1 = entBytes ⟨yk, ⟨vk, vn, vt⟩⟩) := Lib.hid (by rw [hr1, hr0, hdlE]; rfl)
                  have HTK1 : Hid (∀ V, Calls Tryz.prog 49 #[.agg #[.slice none 0 0, .int .i64 0], .string yk] V (RW r0 V)) := Lib.hid (fun V => by
                    have h := rwtext_any none 0 0 [] yk V (Row.nil _ _) rfl (fun _ => rfl) (by omega)
                    rw [List.nil_append, ← hr0] at h
                    exact h)
                  have HTX : Hid (∀ A c (U V : World), V.ownsRow U.heap.size 5 1 (.slice A r0.length c) r0.length (cellsB r0) → Calls Tryz.prog 49 #[.agg #[.slice A r0.length c, .int .i64 0], .string ⟨dl.toArray⟩] V (RW r1 V)) := Lib.hid (fun A c U V o => by
                    have h := rwtext_any A r0.length c r0 ⟨dl.toArray⟩ V (Row.of_owns o) rfl (owns_none o) (by show r0.length + dl.toArray.size + 10 ≤ _; rw [List.size_toArray]; rw [← hdlE] at hdl; omega)
                    rw [show (⟨dl.toArray⟩ : ByteArray).data.toList = dl from rfl, ← hr1] at h
                    exact h)
                  have HST2 : Hid (pwEnts xk es = pwEnts (pwEnt xj ⟨yk, ⟨vk, vn, vt⟩⟩) (es.drop (j + 1))) := Lib.hid hst
                  have hxje : xj.entries ≤ 281474976710655 := by have := HBJ.out; omega
                  obtain ⟨_, _, _, _, _, _, _, _, s8, s9, s10, s11⟩ := HSS.out w5 b5'
                  clear hst hE1 hk1 hd1 hdlE hr0 hr1 HE HST hen7 hkz hdl
                  go_upto_region 30 with (go_at_call 51; refine HEN7.out.mono ?_; rintro e w6 ⟨A6, c6, rfl, o6, b6⟩)
                  have b56 := below_then b5' b6 b5'.size
                  obtain ⟨_, _, _, _, _, _, _, _, s8', _, _, _⟩ := HSS.out w6 b56
                  have h5W : W4.heap.size ≤ wj.heap.size := HK.out.size
                  clear s8 s9 s10 s11 HEN7 S5 b6
                  go_upto_region 31 with (go_at_call 49; refine (HTK1.out _).mono ?_; rintro e w7 ⟨A7, c7, rfl, o7, b7⟩)
                  have ba := (Below.refl w7.heap.size w7).alloc (Nat.le_refl _) (.cells #[.slice A7 r0.length c7, .int .i64 0] 104)
                  have b67 := below_then b7 ba b7.size
                  have b57 := below_then b56 b67 b56.size
                  have B7 : BW w6.heap.size (w7.alloc (.cells #[.slice A7 r0.length c7, .int .i64 0] 104)) w7.heap.size A7 c7 r0 := BW.new o7 (Nat.le_refl _)
                  have o67 := owns_mono' o6 b67
                  have h7q := b7.size
                  have h6q := b56.size
                  obtain ⟨q, hq⟩ : ∃ q, q = w7.heap.size := ⟨_, rfl⟩
                  obtain ⟨W7, hW7⟩ : ∃ W7, W7 = w7.alloc (.cells #[.slice A7 r0.length c7, .int .i64 0] 104) := ⟨_, rfl⟩
                  rw [← hW7, ← hq] at B7
                  rw [← hW7] at b57 o67 b67
                  rw [← hq] at h7q
                  rw [← hW7, ← hq]
                  have hcv := run_ofBytes (P := Tryz.prog) 33 9 5 Tryz.underlying33 Tryz.underlying5 Tryz.underlying9 (W := W7) (A := A6) (xs := dl) dl.length c6 rfl (Row.of_owns o67) (owns_none o67)
                  have c70 := B7.t.cell 0
                  have c71 := B7.t.cell 1
                  simp only [List.getElem?_toArray, List.getElem?_cons_zero, List.getElem?_cons_succ] at c70 c71
                  have HT7 := Lib.hid (HTX.out A7 c7 w6 W7 B7.o)
                  clear hW7 hq b7 ba o7 o6 s8' HTK1 HTX b56 o67
                  go_upto_region 32 with (go_at_call 49; refine HT7.out.mono ?_; rintro e w8 ⟨A8, c8, rfl, o8, b8⟩; obtain ⟨B8, y0, y1, g0, g1⟩ := B7.step b8 o8 b67.size)
                  have b58 : Below wj.heap.size wj (put2 w8 q (.slice A8 r1.length c8) (.int .i64 0)) := put2_below (below_then b57 b8 b57.size) (by omega)
                  obtain ⟨W8, hW8⟩ : ∃ W8, W8 = put2 w8 q (.slice A8 r1.length c8) (.int .i64 0) := ⟨_, rfl⟩
                  rw [← hW8] at B8 b58
                  unfold put2 at hW8
                  rw [← hW8]
                  have c80 := B8.t.cell 0
                  simp only [List.getElem?_toArray, List.getElem?_cons_zero] at c80
                  have hsrc := (Row.of_owns B8.o).src (P := Tryz.prog) (size := 1) (n := r1.length) (c := c8) (tx := 33) Tryz.underlying33 (by rw [cellsB_length]; omega) (cellsB_one r1) (owns_none B8.o)
                  have HSRC := Lib.hid hsrc
                  have ob8 := owns_mono' HO.out b58
                  have v8 := Loc.below HV.out b58 (Loc.lt HV.out)
                  have hsb8 := b58.size
                  have K8 : Keep W4.heap.size (· = p) W4 W8 := HK.out.step (Keep.of_below b58 (fun _ => False)) h5W (fun _ _ h => h.elim)
                  have HV8 := Lib.hid v8
                  have HOB8 := Lib.hid ob8
                  have HK8 := Lib.hid K8
                  have hbsl := HBJ.out.1
                  clear hW8 y0 y1 g0 g1 o8 b8 B7 c70 c71 hcv HT7 b57 b67 hsrc ob8 v8 K8 h7q h6q hsb8
                  go_upto_region 33 with (at_builtin; refine wpList_append_mine _ rfl _ _ 33 33 rfl 5 (.int .u8 0) 1 1 Tryz.underlying33 infoU8 rfl (by decide) (.slice Bd bs.length db) bs.length (cellsB bs) rfl (owns_base HOB8.out (fun _ _ => Nat.zero_le _)) (.slice A8 r1.length c8) r1.length (cellsB r1) rfl HSRC.out (by unfold maxLen; omega) (by omega) ?_; intro A9 c9 w9 hown9 hg9 hb9 hx9)
                  have hL9 : VLoc w9 p xj := Loc.grown HV8.out hg9 (owns_ne HOB8.out HV8.out (by decide))
                  obtain ⟨m0, m1, m2, m3, m4, m5, m6, m7⟩ := hL9.cells
                  obtain ⟨f0, f1, f2, f3, f4, f5, f6, f7⟩ := hL9.free8
                  have hbB : ∀ k, (Value.slice Bd bs.length db).ownBlock = some k → W4.heap.size ≤ k := fun k hk => (HOB8.out.lt k hk).1
                  have K9 : Keep W4.heap.size (· = p) W4 w9 := HK8.out.grown hg9 HK8.out.size (fun k hk => .inl (hbB k hk))
                  have bw9 : Below w.heap.size w w9 := below_keep G4.b K9 G4.b.size (fun k hk => by have := G4.hp; omega)
                  have s89 : w9.cell? ⟨b, off + j * 4, none⟩ = some (.string yk) := by rw [← HZB.out.1]; exact bw9.cell (p := ⟨b, off + j * 4, none⟩) HZB.out.2
                  have o9 : w9.ownsRow W4.heap.size 5 1 (.slice A9 (bs.length + r1.length) c9) (bs.length + r1.length) (cellsB bs ++ cellsB r1) := owns_base hown9 (fun k hk => by
                    rcases hb9 k hk with h | h
                    · exact hbB k h
                    · rw [h]; exact HK8.out.size)
                  obtain ⟨xm, hxm⟩ : ∃ xm : PW, xm = { xj with key := yk } := ⟨_, rfl⟩
                  obtain ⟨xn, hxn⟩ : ∃ xn : PW, xn = { xm with entries := xj.entries + 1 } := ⟨_, rfl⟩
                  have v10 : VLoc (w9.setCell ⟨p, 6, none⟩ (.string yk)) p xm := by
                    have h := Loc.set hL9 6 (.string yk)
                    rw [show xj.val.setIfInBounds 6 (.string yk) = xm.val by rw [hxm]; rfl] at h
                    exact h
                  have v11 : VLoc ((w9.setCell ⟨p, 6, none⟩ (.string yk)).setCell ⟨p, 4, none⟩ (.int .i64 ((xj.entries : Int) + 1))) p xn := by
                    have h := Loc.set v10 4 (.int .i64 ((xj.entries : Int) + 1))
                    rw [show xm.val.setIfInBounds 4 (.int .i64 ((xj.entries : Int) + 1)) = xn.val by rw [hxn, hxm]; rfl] at h
                    exact h
                  have K11 : Keep W4.heap.size (· = p) W4 ((w9.setCell ⟨p, 6, none⟩ (.string yk)).setCell ⟨p, 4, none⟩ (.int .i64 ((xj.entries : Int) + 1))) := (K9.setCell (p := ⟨p, 6, none⟩) (.inr rfl) _).setCell (p := ⟨p, 4, none⟩) (.inr rfl) _
                  have o10 := owns_setCell (a := ⟨p, 6, none⟩) o9 (owns_ne o9 hL9 (by decide)) (.string yk)
                  have o11 := owns_setCell (a := ⟨p, 4, none⟩) o10 (owns_ne o10 v10 (by decide)) (.int .i64 ((xj.entries : Int) + 1))
                  have HXN : Hid (xn = pwEnt xj ⟨yk, ⟨vk, vn, vt⟩⟩) := Lib.hid (by rw [hxn, hxm]; rfl)
                  have HXF : Hid (xn.frames = xj.frames ∧ xn.entries = xj.entries + 1) := Lib.hid (by rw [hxn, hxm]; exact ⟨rfl, rfl⟩)
                  have HV11 := Lib.hid v11
                  have HK11 := Lib.hid K11
                  have HO11 := Lib.hid o11
                  clear hxm hxn v10 v11 bw9 K9 K11 o9 o10 o11 hg9 hb9 hown9 hx9 hbB
                  go_wp2
                  go_roundw
                  case rel =>
                    have h1 := HBJ.out
                    have h2 := HXF.out
                    have hlen : (bs ++ r1).length = bs.length + r1.length := List.length_append
                    refine ⟨j + 1, xn, bs ++ r1, A9, c9, by omega, by rw [hlen], by go_num, HK11, HV11, Lib.hid ?_, Lib.hid (by omega), Lib.hid (by rw [HXN.out]; exact HST2.out), Lib.hid (by rw [HTK.out, ← List.append_assoc, ← HBS.out, HR1.out])⟩
                    rw [hlen, cellsB_append]
                    exact HO11.out
                  case measure => simp [intOf]; omega
                · have t3 : (E != 0) = true := by simpa using hE0
                  have HX : Hid (Q = (([], x), E)) := Lib.hid (by
                    rw [HQ3.out, HST.out, if_pos hE0]
                    simp only
                    rw [if_pos hE0])
                  clear hE0
                  have k1 := VLoc.cells S5.v1
                  rw [HLV.out] at k1
                  have hres : R14P w Q (.returned (.tuple #[.slice none 0 0, .agg x.val, .int .i64 E])) (putV w5 (w.heap.size + 1) x).drew := by rw [HX.out]; exact ⟨none, 0, rfl, World.ownsRow_nil _ _ _ _, below_drewN (putV_below S5.b (Nat.le_succ w.heap.size) x) 1⟩
                  have hfin : VLoc (putV w5 (w.heap.size + 1) x).drew (w.heap.size + 1) x := Loc.drew (putV_loc S5.v7 x)
                  have HRES := Lib.hid hres
                  have HFIN := Lib.hid hfin.cells
                  obtain ⟨k10, k11, k12, k13, k14, k15, k16, k17⟩ := k1
                  obtain ⟨m0, m1, m2, m3, m4, m5, m6, m7⟩ := VLoc.cells S5.v7
                  obtain ⟨f0, f1, f2, f3, f4, f5, f6, f7⟩ := VLoc.free8 S5.v7
                  clear hres hfin
                  go_upto_region 28 with (fail)
                  go_region
                  all_goals
                    go_wp2
                    have hres := HRES.out
                    obtain ⟨e0, e1, e2, e3, e4, e5, e6, e7⟩ := HFIN.out
                    unfold putV at hres e0 e1 e2 e3 e4 e5 e6 e7
                    rw [HLV.out] at hres e0 e1 e2 e3 e4 e5 e6 e7
                    exact bodyPost_ret (v := .tuple #[.slice none 0 0, .agg x.val, .int .i64 E]) (by simp [results, Tryz.results19, go_sem, e0, e1, e2, e3, e4, e5, e6, e7, PW.val, HLV.out]) rfl hres
              · obtain rfl : j = ne := by omega
                have hjn' : ¬ (j : Int) < (j : Int) := by omega
                have hpp := HPJ.out
                rw [List.drop_eq_nil_of_le (by rw [← HNE.out]; exact Nat.le_refl _), pwEnts] at hpp
                have hbs := HBS.out
                rw [List.take_of_length_le (by rw [← HNE.out]; exact Nat.le_refl _)] at hbs
                have hfb := HEF.out xj HBJ.out.2.1 bs hbs
                obtain ⟨zf, hzf⟩ : ∃ zf, zf = ys ++ entsFrame xj es := ⟨_, rfl⟩
                obtain ⟨x3, hx3⟩ : ∃ x3 : PW, x3 = { xj with frames := xj.frames + 1 } := ⟨_, rfl⟩
                have HX : Hid (Q = ((zf, x3), 0)) := Lib.hid (by
                  rw [HQ3.out, hpp, hzf, hx3]
                  simp only
                  rw [if_neg (by simp), if_neg HNE0.out])
                have HFR := Lib.hid (framedQ_any xj x3 hx3 O Bd ys.length bs.length d db w.heap.size ys bs zf (by rw [hfb, hzf]) wj Gj.o Gj.b.size rfl (Row.of_owns HO.out) rfl (owns_none HO.out) (by have := HBJ.out; omega) (by have := HBI.out; omega) (by have := HBJ.out; omega))
                obtain ⟨k10, k11, k12, k13, k14, k15, k16, k17⟩ := VLoc.cells Gj.v11
                clear hpp hbs hfb hzf hx3
                go_upto_region 36 with (go_at_call 46; refine HFR.out.mono ?_; rintro e w10 ⟨A10, c10, rfl, o10, K10⟩; obtain ⟨G10, v10⟩ := Gj.framed (x2 := x3) o10 K10; obtain ⟨m0, m1, m2, m3, m4, m5, m6, m7⟩ := v10.cells; obtain ⟨f0, f1, f2, f3, f4, f5, f6, f7⟩ := v10.free8)
                obtain ⟨W10, hW10⟩ : ∃ W10, W10 = putV w10 p x3 := ⟨_, rfl⟩
                rw [← hW10] at G10
                unfold putV at hW10
                rw [← hW10]
                clear hW10 m0 m1 m2 m3 m4 m5 m6 m7 f0 f1 f2 f3 f4 f5 f6 f7 v10 o10 K10 k10 k11 k12 k13 k14 k15 k16 k17 HFR
                have hres : R14P w Q (.returned (.tuple #[.slice A10 zf.length c10, .agg x3.val, .int .i64 0])) (putV W10 (w.heap.size + 1) x3).drew := by rw [HX.out]; exact ⟨A10, c10, rfl, owns_mono' (putV_own G10.o (owns_ne G10.o G10.v7 (by decide)) x3) (below_drewN (Below.refl _ _) 1), below_drewN (putV_below G10.b (Nat.le_succ w.heap.size) x3) 1⟩
                have hfin : VLoc (putV W10 (w.heap.size + 1) x3).drew (w.heap.size + 1) x3 := Loc.drew (putV_loc G10.v7 x3)
                have HRES := Lib.hid hres
                have HFIN := Lib.hid hfin.cells
                obtain ⟨k10, k11, k12, k13, k14, k15, k16, k17⟩ := VLoc.cells G10.v11
                obtain ⟨m0, m1, m2, m3, m4, m5, m6, m7⟩ := VLoc.cells G10.v7
                obtain ⟨f0, f1, f2, f3, f4, f5, f6, f7⟩ := VLoc.free8 G10.v7
                clear hres hfin
                go_region
                all_goals
                  go_wp2
                  have hres := HRES.out
                  obtain ⟨e0, e1, e2, e3, e4, e5, e6, e7⟩ := HFIN.out
                  unfold putV at hres e0 e1 e2 e3 e4 e5 e6 e7
                  exact bodyPost_ret (v := .tuple #[.slice A10 zf.length c10, .agg x3.val, .int .i64 0]) (by simp [results, Tryz.results19, go_sem, e0, e1, e2, e3, e4, e5, e6, e7, PW.val]) rfl hres
end Go.Proofs.YtnieminnnkbneaaGreat
