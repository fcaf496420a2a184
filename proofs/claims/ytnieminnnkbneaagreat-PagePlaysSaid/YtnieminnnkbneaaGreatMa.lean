/- Walks of frame.next, Next. -/
import Derived.WalkKit
import Derived.Test.YtnieminnnkbneaaGreatPure
import Derived.Test.YtnieminnnkbneaaGreatGen
import Derived.Lib.AppendZerosOnto
namespace Go.Proofs.YtnieminnnkbneaaGreat
open Go.RowKit

def poly : Nat := 0x82f63b78
def stepN (s : Nat) : Nat := (s / 2) ^^^ (if s % 2 = 1 then poly else 0)
theorem xor_div2 (a b : Nat) : (a ^^^ b) / 2 = a / 2 ^^^ b / 2 := by
 apply Nat.eq_of_testBit_eq
 intro i
 rw [Nat.testBit_xor, Nat.testBit_div_two, Nat.testBit_div_two, Nat.testBit_div_two, Nat.testBit_xor]
theorem xor_mod2 (a b : Nat) : ((a ^^^ b) % 2 = 1) ↔ ¬ ((a % 2 = 1) ↔ (b % 2 = 1)) := by
 have h := Nat.testBit_xor a b 0
 simp only [Nat.testBit_zero] at h
 rcases Nat.mod_two_eq_zero_or_one a with ha | ha <;> rcases Nat.mod_two_eq_zero_or_one b with hb | hb <;> rcases Nat.mod_two_eq_zero_or_one (a ^^^ b) with hc | hc <;> simp [ha, hb, hc] at h ⊢
theorem step_lin (a b : Nat) : stepN (a ^^^ b) = stepN a ^^^ stepN b := by
 unfold stepN
 rw [xor_div2]
 have h := xor_mod2 a b
 by_cases ha : a % 2 = 1
 ·by_cases hb : b % 2 = 1
  ·rw [if_neg (by rw [h]; simp [ha, hb]), if_pos ha, if_pos hb, Nat.xor_zero]
   rw [show a / 2 ^^^ poly ^^^ (b / 2 ^^^ poly) = a / 2 ^^^ b / 2 ^^^ (poly ^^^ poly) by ac_rfl, Nat.xor_self, Nat.xor_zero]
  ·rw [if_pos (by rw [h]; simp [ha, hb]), if_pos ha, if_neg hb, Nat.xor_zero]
   ac_rfl
 ·by_cases hb : b % 2 = 1
  ·rw [if_pos (by rw [h]; simp [ha, hb]), if_neg ha, if_pos hb, Nat.xor_zero]
   ac_rfl
  ·rw [if_neg (by rw [h]; simp [ha, hb]), if_neg ha, if_neg hb]
   simp
theorem step_even (a : Nat) : stepN (2 * a) = a := by
 unfold stepN
 rw [if_neg (by omega), Nat.xor_zero]
 omega
def step4 (s : Nat) : Nat := stepN (stepN (stepN (stepN s)))
theorem step4_lin (a b : Nat) : step4 (a ^^^ b) = step4 a ^^^ step4 b := by simp only [step4, step_lin]
theorem step4_hi (a : Nat) : step4 (16 * a) = a := by
 unfold step4
 rw [show 16 * a = 2 * (2 * (2 * (2 * a))) by omega, step_even, step_even, step_even, step_even]
theorem split16 (s : Nat) : s = (s % 16) ^^^ (16 * (s / 16)) := by
 apply Nat.eq_of_testBit_eq
 intro i
 rw [Nat.testBit_xor, show (16 : Nat) = 2 ^ 4 from rfl, Nat.testBit_mod_two_pow, Nat.testBit_two_pow_mul, Nat.testBit_div_two_pow]
 by_cases h : i < 4
 ·simp [h, Nat.not_le.2 h]
 ·have : 4 ≤ i := by omega
  simp [h, this, Nat.sub_add_cancel this]
theorem step4_eq (s : Nat) : step4 s = step4 (s % 16) ^^^ (s / 16) := by
 conv => lhs; rw [split16 s]
 rw [step4_lin, step4_hi]

theorem stepN_lt (s : Nat) (h : s < 4294967296) : stepN s < 4294967296 := by
 unfold stepN poly
 have e : (4294967296 : Nat) = 2 ^ 32 := by decide
 rw [e] at h ⊢
 refine Nat.xor_lt_two_pow (by omega) ?_
 split <;> decide
theorem step4_lt (s : Nat) (h : s < 4294967296) : step4 s < 4294967296 := stepN_lt _ (stepN_lt _ (stepN_lt _ (stepN_lt _ h)))
/-- What the table's form of four steps makes. -/
def half (s : Nat) : Nat := step4 (s % 16) ^^^ (s / 16)
theorem half_eq (s : Nat) : half s = step4 s := (step4_eq s).symm
theorem half_lt (s : Nat) (h : s < 4294967296) : half s < 4294967296 := by rw [half_eq]; exact step4_lt s h
def crcStep (s : Nat) (b : UInt8) : Nat := half (half (s ^^^ b.toNat))
theorem xor_lt32 (a b : Nat) (ha : a < 4294967296) (hb : b < 4294967296) : a ^^^ b < 4294967296 := by
 have e : (4294967296 : Nat) = 2 ^ 32 := by decide
 rw [e] at ha hb ⊢
 exact Nat.xor_lt_two_pow ha hb
theorem crcStep_lt (s : Nat) (b : UInt8) (h : s < 4294967296) : crcStep s b < 4294967296 :=
 half_lt _ (half_lt _ (xor_lt32 _ _ h (by have := b.toNat_lt; omega)))
def crcGo (s : Nat) (p : Bs) : Nat := p.foldl crcStep s
theorem crcGo_lt (p : Bs) : ∀ s, s < 4294967296 → crcGo s p < 4294967296 := by
 unfold crcGo
 induction p with
 | nil => intro s h; exact h
 | cons b p ih => intro s h; exact ih _ (crcStep_lt s b h)
theorem crcGo_take (s : Nat) (p : Bs) (k : Nat) (h : k < p.length) : crcGo s (p.take (k + 1)) = crcStep (crcGo s (p.take k)) p[k] := by
 unfold crcGo
 rw [List.take_succ_eq_append_getElem h, List.foldl_append]
 rfl
/-- The sum of what sum is the sum of, and p behind it. -/
def crcUpd (sum : Nat) (p : Bs) : Nat := 4294967295 - crcGo (4294967295 - sum) p
theorem crcUpd_lt (sum : Nat) (p : Bs) : crcUpd sum p < 4294967296 := by unfold crcUpd; omega
end Go.Proofs.YtnieminnnkbneaaGreat

namespace Go.Proofs.YtnieminnnkbneaaGreat
open Go.RowKit

theorem u32wrap (x : Nat) (h : x < 4294967296) : IntKind.u32.wrap (x : Int) = (x : Int) := by
 simp [IntKind.bits, IntKind.wrap, IntKind.signed]; omega
theorem u32of (x : Nat) (h : x < 4294967296) : (BitVec.ofInt 32 (x : Int)).toNat = x := by rw [BitVec.toNat_ofInt]; omega
theorem xor_u32 (a b : Nat) (ha : a < 4294967296) (hb : b < 4294967296) : bits BinOp.xor IntKind.u32 (a : Int) (b : Int) = ((a ^^^ b : Nat) : Int) := by
 show IntKind.u32.wrap (((BitVec.ofInt 32 (a : Int) ^^^ BitVec.ofInt 32 (b : Int)).toNat : Nat) : Int) = _
 rw [BitVec.toNat_xor, u32of a ha, u32of b hb, u32wrap _ (xor_lt32 a b ha hb)]
theorem and1_u32 (a : Nat) (ha : a < 4294967296) : bits BinOp.and IntKind.u32 (a : Int) 1 = ((a % 2 : Nat) : Int) := by
 show IntKind.u32.wrap (((BitVec.ofInt 32 (a : Int) &&& BitVec.ofInt 32 ((1 : Nat) : Int)).toNat : Nat) : Int) = _
 rw [BitVec.toNat_and, u32of a ha, u32of 1 (by decide), Nat.and_one_is_mod, u32wrap _ (by omega)]
theorem and15_u32 (a : Nat) (ha : a < 4294967296) : bits BinOp.and IntKind.u32 (a : Int) 15 = ((a % 16 : Nat) : Int) := by
 show IntKind.u32.wrap (((BitVec.ofInt 32 (a : Int) &&& BitVec.ofInt 32 ((15 : Nat) : Int)).toNat : Nat) : Int) = _
 rw [BitVec.toNat_and, u32of a ha, u32of 15 (by decide), show (15 : Nat) = 2 ^ 4 - 1 by decide, Nat.and_two_pow_sub_one_eq_mod, u32wrap _ (by omega)]

/-- The table as it lies. -/
def crcTab (k : Nat) : Array Value := ((List.range 16).map fun j => Value.int .u32 (if j < k then (step4 j : Int) else 0)).toArray

theorem infTab : (Tryz.prog.info? 208).map (·.size) = some 16 := by kernel_rfl
theorem crcTab_size (k : Nat) : (crcTab k).size = 16 := by simp [crcTab]
theorem crcTab_at (k j : Nat) (h : j < 16) : (crcTab k)[j]? = some (.int .u32 (if j < k then (step4 j : Int) else 0)) := by
 simp [crcTab, h]
theorem crcTab_one (k : Nat) : ∀ i (h : i < (crcTab k).size), (crcTab k)[i].oneCell' = true := by
 intro i h
 have h1 : i < 16 := by rw [crcTab_size] at h; exact h
 have h2 := crcTab_at k i h1
 rw [Array.getElem?_eq_getElem h] at h2
 rw [Option.some.inj h2]
 rfl
theorem crcTab_set (k : Nat) (h : k < 16) : (crcTab k).setIfInBounds k (.int .u32 (step4 k)) = crcTab (k + 1) := by
 apply Array.ext_getElem?
 intro j
 by_cases hj : j < 16
 ·rw [crcTab_at _ j hj]
  by_cases hjk : j = k
  ·subst hjk
   simp [crcTab_size, hj]
  ·rw [Array.getElem?_setIfInBounds_ne (by omega), crcTab_at _ j hj]
   by_cases h1 : j < k
   ·rw [if_pos h1, if_pos (by omega)]
   ·rw [if_neg h1, if_neg (by omega)]
 ·rw [Array.getElem?_eq_none (by simp [crcTab_size]; omega), Array.getElem?_eq_none (by rw [crcTab_size]; omega)]

def stepI : Nat → Nat → Nat
 | 0, s => s
 | j + 1, s => stepN (stepI j s)
theorem stepI_lt (j s : Nat) (h : s < 4294967296) : stepI j s < 4294967296 := by
 induction j with
 | zero => exact h
 | succ j ih => exact stepN_lt _ ih
theorem stepN_odd (s : Nat) (h : s % 2 = 1) : stepN s = s / 2 ^^^ 2197175160 := by unfold stepN; rw [if_pos h]; rfl
theorem stepN_even (s : Nat) (h : s % 2 = 0) : stepN s = s / 2 := by unfold stepN; rw [if_neg (by omega), Nat.xor_zero]
theorem xorp_u32 (s : Nat) (h : s < 4294967296) : bits BinOp.xor IntKind.u32 ((s : Int) / 2) 2197175160 = ((s / 2 ^^^ 2197175160 : Nat) : Int) :=
 xor_u32 (s / 2) 2197175160 (by omega) (by decide)

theorem Loc.tab {w : World} : Loc (w.alloc (.cells #[.int .u32 0, .int .u32 0, .int .u32 0, .int .u32 0, .int .u32 0, .int .u32 0, .int .u32 0, .int .u32 0, .int .u32 0, .int .u32 0, .int .u32 0, .int .u32 0, .int .u32 0, .int .u32 0, .int .u32 0, .int .u32 0] 208)) w.heap.size (crcTab 0) 208 := Loc.new w _ _

set_option maxHeartbeats 2000000 in
theorem halves_any (w : World) :
  Calls Tryz.prog 122 #[] w fun e w' => e = .returned (.agg (crcTab 16)) ∧ Below w.heap.size w w' := by
 go_enter Tryz.func122, Tryz.ntmps122
 go_wp2
 have L0 := Loc.alloc (Loc.tab (w := w)) (.cells #[.int .u32 0, .int .u32 0, .int .u32 0, .int .u32 0, .int .u32 0, .int .u32 0, .int .u32 0, .int .u32 0, .int .u32 0, .int .u32 0, .int .u32 0, .int .u32 0, .int .u32 0, .int .u32 0, .int .u32 0, .int .u32 0] 208)
 have b0 := Below.alloc' (by simp) (.cells #[.int .u32 0, .int .u32 0, .int .u32 0, .int .u32 0, .int .u32 0, .int .u32 0, .int .u32 0, .int .u32 0, .int .u32 0, .int .u32 0, .int .u32 0, .int .u32 0, .int .u32 0, .int .u32 0, .int .u32 0, .int .u32 0] 208) ((Below.refl w.heap.size w).alloc (Nat.le_refl _) (.cells #[.int .u32 0, .int .u32 0, .int .u32 0, .int .u32 0, .int .u32 0, .int .u32 0, .int .u32 0, .int .u32 0, .int .u32 0, .int .u32 0, .int .u32 0, .int .u32 0, .int .u32 0, .int .u32 0, .int .u32 0, .int .u32 0] 208))
 have L1 : Loc ((w.alloc (.cells #[.int .u32 0, .int .u32 0, .int .u32 0, .int .u32 0, .int .u32 0, .int .u32 0, .int .u32 0, .int .u32 0, .int .u32 0, .int .u32 0, .int .u32 0, .int .u32 0, .int .u32 0, .int .u32 0, .int .u32 0, .int .u32 0] 208)).alloc (.cells #[.int .u32 0, .int .u32 0, .int .u32 0, .int .u32 0, .int .u32 0, .int .u32 0, .int .u32 0, .int .u32 0, .int .u32 0, .int .u32 0, .int .u32 0, .int .u32 0, .int .u32 0, .int .u32 0, .int .u32 0, .int .u32 0] 208)) (w.heap.size + 1) (crcTab 0) 208 := by
  have h := Loc.tab (w := w.alloc (.cells #[.int .u32 0, .int .u32 0, .int .u32 0, .int .u32 0, .int .u32 0, .int .u32 0, .int .u32 0, .int .u32 0, .int .u32 0, .int .u32 0, .int .u32 0, .int .u32 0, .int .u32 0, .int .u32 0, .int .u32 0, .int .u32 0] 208))
  rw [World.size_alloc] at h
  exact h
 go_loopw [4] (fun i wr => ∃ k : Nat, k ≤ 16 ∧ i = .int .i64 k ∧ Loc wr w.heap.size (crcTab 0) 208 ∧ Loc wr (w.heap.size + 1) (crcTab k) 208 ∧ Below w.heap.size w wr) (fun i _ => 16 - (intOf i).toNat)
 case atStart => exact ⟨0, by omega, rfl, L0, L1, b0⟩
 case round =>
  obtain ⟨wi, rfl⟩ : ∃ wi, wi = wr := ⟨_, rfl⟩
  obtain ⟨k, hk, rfl, Ki, Li, bi⟩ := hrel
  clear L0 b0 L1
  by_cases hk16 : k < 16
  ·have hk1 : (k : Int) < 16 := by omega
   have hk2 : (0 : Int) ≤ (k : Int) := by omega
   have hwk : IntKind.u32.wrap (k : Int) = (k : Int) := u32wrap k (by omega)
   have hfr := Li.free k
   have hce := Li.cell k
   rw [crcTab_at k k hk16, if_neg (Nat.lt_irrefl k)] at hce
   go_wp2
   go_loopw [3, 9] (fun s j wr => ∃ m : Nat, m ≤ 4 ∧ j = .int .i64 m ∧ s = .int .u32 (stepI m k : Nat) ∧ wr = wi) (fun _ j _ => 4 - (intOf j).toNat)
   case atStart => exact ⟨0, by omega, rfl, rfl, rfl⟩
   case round =>
    obtain ⟨wj, hwj⟩ : ∃ wj, wj = wr := ⟨_, rfl⟩
    obtain ⟨m, hm, rfl, rfl, rfl⟩ := hrel
    obtain ⟨S, hS⟩ : ∃ S, S = stepI m k := ⟨_, rfl⟩
    have hSl : S < 4294967296 := by rw [hS]; exact stepI_lt m k (by omega)
    have HS := Lib.hid hS
    rw [← hS]
    clear hS
    by_cases hm4 : m < 4
    ·have hm1 : (m : Int) < 4 := by omega
     have ea := and1_u32 S hSl
     by_cases ho : S % 2 = 1
     ·rw [ho] at ea
      have ex := xorp_u32 S hSl
      have es := stepN_odd S ho
      obtain ⟨X, hX⟩ : ∃ X, X = (S / 2 ^^^ 2197175160) := ⟨_, rfl⟩
      rw [← hX] at ex es
      have HES := Lib.hid es
      clear hX es
      go_wp2
      go_roundw
      case rel => exact ⟨m + 1, by omega, by go_num, by rw [stepI, ← HS.out, HES.out], trivial⟩
      case measure => simp [intOf]; omega
     ·have he : S % 2 = 0 := by omega
      rw [he] at ea
      have HES := Lib.hid (stepN_even S he)
      go_wp2
      go_roundw
      case rel => exact ⟨m + 1, by omega, by go_num, by rw [stepI, ← HS.out, HES.out]; rfl, trivial⟩
      case measure => simp [intOf]; omega
    ·have hm1 : ¬ (m : Int) < 4 := by omega
     have HST : Hid (S = step4 k) := Lib.hid (by rw [HS.out, show m = 4 by omega]; rfl)
     go_wp2
     go_roundw
     case rel =>
      refine ⟨k + 1, by omega, by go_num, Ki.other (by simp) _, ?_, bi.setCell (by simp) _⟩
      have h := Li.set k (.int .u32 (step4 k : Nat))
      rw [crcTab_set k hk16] at h
      rw [HST.out]
      exact h
     case measure => simp [intOf]; omega
  ·have hk1 : ¬ (k : Int) < 16 := by omega
   have HK : Hid (k = 16) := Lib.hid (by omega)
   rw [HK.out] at Li
   clear hk hk16
   go_upto_region 14 with (fail)
   refine wp_absA (fun A => A.tmps.getD 1 undef = .pointer (some ⟨w.heap.size + 1, 0, none⟩) ∧ A.tmps.getD 0 undef = .pointer (some ⟨w.heap.size, 0, none⟩) ∧ A.tmps.size = 25 ∧ A.defers = []) ⟨rfl, rfl, rfl, rfl⟩ ?_
   rintro act ⟨e1, e0, esz, edf⟩
   refine wp_region_lit ?_
   refine wpList_load_row rfl 208 (.tmp 1) rfl _ (by rw [eval_tmp]; exact e1) 208 _ (0, 0) _ Li Tryz.underlying208 rfl (by rw [crcTab_size]; exact infTab) ?_
   refine wpList_store_row rfl 208 (.tmp 0) (.tmp 24) rfl w.heap.size (crcTab 16) (by rw [eval_tmp, getD_put_other _ _ _ _ (by decide)]; exact e0) (by rw [eval_tmp, getD_put_same _ _ _ (by omega)]) 208 _ Ki (by rw [crcTab_size]; exact infTab) (by rw [crcTab_size, crcTab_size]) (all_of_one (crcTab_one 16)) ?_
   refine wpList_nil ?_
   rename_i hK
   refine hK _ _ (wp_ret ?_)
   have hrow := setRow_heap wi w.heap.size (crcTab 0) (crcTab 16) 208 _ Ki
   refine bodyPost_ret (v := .agg (crcTab 16)) (results_cell_row rfl _ _ w.heap.size 208 (crcTab 16) (0, 0) _ ?_ hrow Tryz.underlying208 rfl (by rw [crcTab_size]; exact infTab)) edf ⟨rfl, ?_⟩
   ·show ((act.put (some 24) (.agg (crcTab 16))).put none _).tmps.getD 0 undef = _
    exact (getD_put_other _ _ _ _ (by decide)).trans e0
   ·exact ⟨bi.os, bi.tape, bi.output, by rw [size_setRow]; exact bi.size, fun k hk => by rw [setRow_other wi _ k _ (by omega)]; exact bi.block k hk⟩

theorem half_bits (s : Nat) (hs : s < 4294967296) : bits BinOp.xor IntKind.u32 (step4 (s % 16) : Nat) ((s : Int) / 16) = (half s : Nat) :=
 xor_u32 (step4 (s % 16)) (s / 16) (step4_lt _ (by omega)) (by omega)
theorem Loc.crc {w : World} {b : Nat} (h : Loc w b (crcTab 16) 208) (s : Nat) : w.cell? ⟨b, s % 16, none⟩ = some (.int .u32 (step4 (s % 16) : Nat)) := by
 rw [h.cell, crcTab_at 16 _ (by omega), if_pos (by omega)]

set_option maxHeartbeats 1000000 in
theorem steps_any (b s : Nat) (hs : s < 4294967296) (w : World) (h : Loc w b (crcTab 16) 208) :
  Calls Tryz.prog 123 #[.pointer (some ⟨b, 0, none⟩), .int .u32 s] w fun e w' => e = .returned (.int .u32 (half (half s) : Nat)) ∧ w' = w := by
 have ea := and15_u32 s hs
 have hc1 := h.crc s
 have hx1 := half_bits s hs
 have hl := half_lt s hs
 have ea2 := and15_u32 (half s) hl
 have hc2 := h.crc (half s)
 have hx2 := half_bits (half s) hl
 have i1 : ((s % 16 : Nat) : Int) < 16 := by omega
 have i2 : ((half s % 16 : Nat) : Int) < 16 := by omega
 have i3 : (0 : Int) ≤ ((s % 16 : Nat) : Int) := by omega
 have i4 : (0 : Int) ≤ ((half s % 16 : Nat) : Int) := by omega
 clear h hl hs
 generalize half s = S at *
 generalize half S = S2 at *
 generalize S % 16 = T at *
 generalize s % 16 = t at *
 go_enter Tryz.func123, Tryz.ntmps123
 go_wp2
 go_ret
 exact ⟨rfl, rfl⟩

theorem not_u32 (s : Nat) (hs : s < 4294967296) : bits BinOp.xor IntKind.u32 IntKind.u32.max (s : Int) = ((4294967295 - s : Nat) : Int) := by
 show IntKind.u32.wrap (((BitVec.ofInt 32 (4294967295 : Int) ^^^ BitVec.ofInt 32 (s : Int)).toNat : Nat) : Int) = _
 have e3 : (BitVec.ofInt 32 4294967295) = BitVec.allOnes _ := by decide
 rw [e3, BitVec.allOnes_xor, BitVec.toNat_not, u32of s hs, u32wrap _ (by omega)]
theorem u32byte (b : UInt8) : IntKind.u32.wrap (b.toNat : Int) = (b.toNat : Int) := u32wrap _ (by have := b.toNat_lt; omega)

set_option maxHeartbeats 1000000 in
theorem update_any (s : Nat) (hs : s < 4294967296) (xs : Bs) (A : Option Addr) (n c : Nat) (hn : n = xs.length) (hln : n ≤ 140737488355328) (w : World) (hr : Row w A (cellsB xs)) :
  Calls Tryz.prog 102 #[.int .u32 s, .slice A n c] w fun e w' => e = .returned (.int .u32 (crcUpd s xs : Nat)) ∧ Below w.heap.size w w' := by
 have HR := Lib.hid hr
 have HN := Lib.hid hn
 clear hr hn
 obtain ⟨res, hres⟩ : ∃ res, res = crcUpd s xs := ⟨_, rfl⟩
 rw [← hres]
 have HRES := Lib.hid hres
 clear hres
 go_enter Tryz.func102, Tryz.ntmps102
 go_wp2_with (go_at_call 122; refine (halves_any _).mono ?_; rintro e w1 ⟨rfl, b1⟩; have hst := fun (c0 : Array Value) (h0 : c0.size = 16) W => store_new 208 (crcTab 16) (by rw [crcTab_size]; exact infTab) (crcTab_one 16) c0 (by rw [h0, crcTab_size]) W)
 rename_i hsz _ _
 clear hst hsz
 have hlt := b1.size
 have LT := Loc.new w1 (crcTab 16) 208
 obtain ⟨W1, hW1⟩ : ∃ W1, W1 = w1.alloc (.cells (crcTab 16) 208) := ⟨_, rfl⟩
 rw [← hW1] at LT ⊢
 have B1 : Below w.heap.size w W1 := by rw [hW1]; exact Below.alloc' b1.size _ b1
 clear hW1 b1
 go_loopw [6, 14] (fun s6 i wr => ∃ k : Nat, k ≤ n ∧ i = .int .i64 k ∧ s6 = .int .u32 (crcGo (4294967295 - s) (xs.take k) : Nat) ∧ wr = W1) (fun _ i _ => n - (intOf i).toNat)
 case atStart => exact ⟨0, by omega, rfl, by rw [not_u32 s hs]; rfl, rfl⟩
 case round =>
  obtain ⟨wi, hwi⟩ : ∃ wi, wi = wr := ⟨_, rfl⟩
  obtain ⟨k, hk, rfl, rfl, rfl⟩ := hrel
  obtain ⟨S, hS⟩ : ∃ S, S = crcGo (4294967295 - s) (xs.take k) := ⟨_, rfl⟩
  have hSl : S < 4294967296 := by rw [hS]; exact crcGo_lt _ _ (by omega)
  have HS := Lib.hid hS
  rw [← hS]
  clear hS
  by_cases hkn : k < n
  ·have hkx : k < xs.length := by rw [← HN.out]; exact hkn
   obtain ⟨b, off, rfl, hc⟩ := (HR.out.of_below B1 (Nat.le_refl _)).cellB (by omega)
   have x0 := hc k hkx
   have htk := crcGo_take (4294967295 - s) xs k hkx
   rw [← HS.out] at htk
   generalize xs[k] = bx at *
   have hkn' : (k : Int) < (n : Int) := by omega
   have hub := u32byte bx
   have hxr := xor_u32 S bx.toNat hSl (by have := bx.toNat_lt; omega)
   have hxl := xor_lt32 S bx.toNat hSl (by have := bx.toNat_lt; omega)
   have hcall := steps_any w1.heap.size _ hxl wr LT
   obtain ⟨Z, hZ⟩ : ∃ Z, Z = half (half (S ^^^ bx.toNat)) := ⟨_, rfl⟩
   rw [← hZ] at hcall
   rw [show crcStep S bx = Z by rw [hZ]; rfl] at htk
   have HT := Lib.hid htk
   generalize S ^^^ bx.toNat = Y at *
   have HC := Lib.hid hcall
   clear hc htk hcall hZ hxl
   go_wp2_with (go_at_call 123; refine HC.out.mono ?_; rintro e w2 ⟨rfl, rfl⟩)
   go_roundw
   case rel => exact ⟨k + 1, by omega, by go_num, by rw [HT.out], trivial⟩
   case measure => simp [intOf]; omega
  ·have hkn' : ¬ (k : Int) < (n : Int) := by omega
   have hnot := not_u32 S hSl
   have hres : crcUpd s xs = 4294967295 - S := by
    rw [HS.out, List.take_of_length_le (by rw [← HN.out]; omega)]
    rfl
   rw [← HRES.out] at hres
   rw [← hres] at hnot
   clear hres
   go_wp2
   go_ret
   exact ⟨ret_int rfl, B1⟩

theorem of_any (xs : Bs) (A : Option Addr) (n c : Nat) (hn : n = xs.length) (hln : n ≤ 140737488355328) (w : World) (hr : Row w A (cellsB xs)) :
  Calls Tryz.prog 103 #[.slice A n c] w fun e w' => e = .returned (.int .u32 (crcUpd 0 xs : Nat)) ∧ Below w.heap.size w w' := by
 have hU := update_any 0 (by decide) xs A n c hn hln w hr
 rw [show ((0 : Nat) : Int) = 0 from rfl] at hU
 obtain ⟨res, hres⟩ : ∃ res, res = crcUpd 0 xs := ⟨_, rfl⟩
 rw [← hres] at hU ⊢
 clear hres hr hn
 go_enter Tryz.func103, Tryz.ntmps103
 go_wp2_with (go_at_call 102; refine hU.mono ?_; rintro e w1 ⟨rfl, b1⟩)
 go_ret
 exact ⟨rfl, b1⟩
end Go.Proofs.YtnieminnnkbneaaGreat

namespace Go.Proofs.YtnieminnnkbneaaGreat
open Go.RowKit

def u8v (b : UInt8) : Value := .int .u8 b.toNat
/-- Four bytes of a word, the lowest first. -/
def le4 (v : Nat) : Bs := [UInt8.ofNat v, UInt8.ofNat (v / 256), UInt8.ofNat (v / 65536), UInt8.ofNat (v / 16777216)]
def fourW (w : World) (b off v : Nat) : World :=
 (((w.setCell ⟨b, off, none⟩ (u8v (UInt8.ofNat v))).setCell ⟨b, off + 1, none⟩ (u8v (UInt8.ofNat (v / 256)))).setCell ⟨b, off + 2, none⟩ (u8v (UInt8.ofNat (v / 65536)))).setCell ⟨b, off + 3, none⟩ (u8v (UInt8.ofNat (v / 16777216)))

theorem u8low (v : Nat) : Value.int .u8 ((v : Int) % 256) = u8v (UInt8.ofNat v) := by rw [low256 v]; rfl

set_option maxHeartbeats 1000000 in
theorem four_any (b off cap v : Nat) (hv : v < 4294967296) (w : World) (hc : ∀ j, j < 4 → ∃ u, w.cell? ⟨b, off + j, none⟩ = some (.int .u8 u)) (hf : ∀ j, w.frozen? ⟨b, off + j, none⟩ = false) :
  Calls Tryz.prog 136 #[.slice (some ⟨b, off, none⟩) 4 cap, .int .u32 v] w fun e w' => e = .returned (.tuple #[]) ∧ w' = fourW w b off v := by
 obtain ⟨u0, c0⟩ := hc 0 (by decide)
 obtain ⟨u1, c1⟩ := hc 1 (by decide)
 obtain ⟨u2, c2⟩ := hc 2 (by decide)
 obtain ⟨u3, c3⟩ := hc 3 (by decide)
 have f0 := hf 0
 have f1 := hf 1
 have f2 := hf 2
 have f3 := hf 3
 rw [Nat.add_zero] at c0 f0
 clear hc hf
 go_enter Tryz.func136, Tryz.ntmps136
 go_wp2
 refine wp_loop_rounds 5 ?_
 rw [rounds_succ]; go_wp2
 rw [rounds_succ]; go_wp2
 rw [rounds_succ]; go_wp2
 rw [rounds_succ]; go_wp2
 rw [rounds_succ]; go_wp2
 go_end0
 refine ⟨rfl, ?_⟩
 unfold fourW
 rw [← u8low v, ← u8low (v / 256), ← u8low (v / 65536), ← u8low (v / 16777216)]
 have e1 : ((v / 256 : Nat) : Int) % 256 = (v : Int) / 256 % 256 := by omega
 have e2 : ((v / 65536 : Nat) : Int) % 256 = (v : Int) / 65536 % 256 := by omega
 have e3 : ((v / 16777216 : Nat) : Int) % 256 = (v : Int) / 16777216 := by omega
 rw [e1, e2, e3]

def wordOf (b0 b1 b2 b3 : UInt8) : Nat := b0.toNat + 256 * b1.toNat + 65536 * b2.toNat + 16777216 * b3.toNat
theorem wordOf_lt (b0 b1 b2 b3 : UInt8) : wordOf b0 b1 b2 b3 < 4294967296 := by
 have := b0.toNat_lt; have := b1.toNat_lt; have := b2.toNat_lt; have := b3.toNat_lt
 unfold wordOf; omega

theorem or_u32 (a x k : Nat) (ha : a < 2 ^ k) (h : a + x * 2 ^ k < 4294967296) : bits BinOp.or IntKind.u32 (a : Int) ((x * 2 ^ k : Nat) : Int) = ((a + x * 2 ^ k : Nat) : Int) := by
 show IntKind.u32.wrap (((BitVec.ofInt 32 (a : Int) ||| BitVec.ofInt 32 ((x * 2 ^ k : Nat) : Int)).toNat : Nat) : Int) = _
 rw [BitVec.toNat_or, u32of a (by omega), u32of (x * 2 ^ k) (by omega)]
 have e4 : a ||| x * 2 ^ k = a + x * 2 ^ k := by
  rw [Nat.or_comm, ← Nat.shiftLeft_eq, ← Nat.shiftLeft_add_eq_or_of_lt ha, Nat.add_comm]
 rw [e4, u32wrap _ h]
theorem word_bits (b0 b1 b2 b3 : UInt8) : bits BinOp.or IntKind.u32
   (bits BinOp.or IntKind.u32
    (bits BinOp.or IntKind.u32 (bits BinOp.or IntKind.u32 0 ((b0.toNat : Int) % 4294967296))
     ((b1.toNat : Int) % 4294967296 * 256 % 4294967296))
    ((b2.toNat : Int) % 4294967296 * 65536 % 4294967296))
   ((b3.toNat : Int) % 4294967296 * 16777216 % 4294967296) =
  ((wordOf b0 b1 b2 b3 : Nat) : Int) := by
 have h0 := b0.toNat_lt; have h1 := b1.toNat_lt; have h2 := b2.toNat_lt; have h3 := b3.toNat_lt
 have x0 : (b0.toNat : Int) % 4294967296 = ((b0.toNat * 2 ^ 0 : Nat) : Int) := by omega
 have x1 : (b1.toNat : Int) % 4294967296 * 256 % 4294967296 = ((b1.toNat * 2 ^ 8 : Nat) : Int) := by omega
 have x2 : (b2.toNat : Int) % 4294967296 * 65536 % 4294967296 = ((b2.toNat * 2 ^ 16 : Nat) : Int) := by omega
 have x3 : (b3.toNat : Int) % 4294967296 * 16777216 % 4294967296 = ((b3.toNat * 2 ^ 24 : Nat) : Int) := by omega
 rw [x0, x1, x2, x3, show (0 : Int) = ((0 : Nat) : Int) from rfl, or_u32 0 _ 0 (by decide) (by omega), or_u32 _ _ 8 (by omega) (by omega), or_u32 _ _ 16 (by omega) (by omega), or_u32 _ _ 24 (by omega) (by omega)]
 unfold wordOf
 congr 1
 omega

set_option maxHeartbeats 1000000 in
theorem word_any (b off n cap : Nat) (hn : 4 ≤ n) (b0 b1 b2 b3 : UInt8) (w : World) (c0 : w.cell? ⟨b, off, none⟩ = some (u8v b0)) (c1 : w.cell? ⟨b, off + 1, none⟩ = some (u8v b1)) (c2 : w.cell? ⟨b, off + 2, none⟩ = some (u8v b2)) (c3 : w.cell? ⟨b, off + 3, none⟩ = some (u8v b3)) :
  Calls Tryz.prog 101 #[.slice (some ⟨b, off, none⟩) n cap] w fun e w' => e = .returned (.int .u32 (wordOf b0 b1 b2 b3 : Nat)) ∧ Below w.heap.size w w' := by
 unfold u8v at c0 c1 c2 c3
 have i0 : (0 : Int) < (n : Int) := by omega
 have i1 : (1 : Int) < (n : Int) := by omega
 have i2 : (2 : Int) < (n : Int) := by omega
 have i3 : (3 : Int) < (n : Int) := by omega
 go_enter Tryz.func101, Tryz.ntmps101
 go_wp2
 refine wp_loop_rounds 5 ?_
 rw [rounds_succ]; go_wp2
 rw [rounds_succ]; go_wp2
 rw [rounds_succ]; go_wp2
 rw [rounds_succ]; go_wp2
 rw [rounds_succ]; go_wp2
 go_ret
 exact ⟨ret_int (word_bits b0 b1 b2 b3), Below.refl _ _⟩
end Go.Proofs.YtnieminnnkbneaaGreat

namespace Go.Proofs.YtnieminnnkbneaaGreat
open Go.RowKit

/-- The head of a body: its length and the sum of both. -/
def headB (xs : Bs) : Bs := le4 xs.length ++ le4 (crcUpd (crcUpd 0 (le4 xs.length)) xs)
theorem headB_length (xs : Bs) : (headB xs).length = 8 := rfl

theorem Loc.four {w : World} {b : Nat} {c : Array Value} {t : TypeId} (h : Loc w b c t) (off v : Nat) :
  Loc (fourW w b off v) b ((((c.setIfInBounds off (u8v (UInt8.ofNat v))).setIfInBounds (off + 1) (u8v (UInt8.ofNat (v / 256)))).setIfInBounds (off + 2) (u8v (UInt8.ofNat (v / 65536)))).setIfInBounds (off + 3) (u8v (UInt8.ofNat (v / 16777216)))) t :=
 (((h.set _ _).set _ _).set _ _).set _ _
theorem Loc.four' {w : World} {b b' : Nat} {c : Array Value} {t : TypeId} (h : Loc w b c t) (hne : b ≠ b') (off v : Nat) : Loc (fourW w b' off v) b c t :=
 (((h.other (a := ⟨b', off, none⟩) hne _).other (a := ⟨b', off + 1, none⟩) hne _).other (a := ⟨b', off + 2, none⟩) hne _).other (a := ⟨b', off + 3, none⟩) hne _
theorem four_below {B : Nat} {a w : World} {b : Nat} (h : Below B a w) (hb : B ≤ b) (off v : Nat) : Below B a (fourW w b off v) :=
 (((h.setCell hb _).setCell hb _).setCell hb _).setCell hb _
theorem four_size (w : World) (b off v : Nat) : (fourW w b off v).heap.size = w.heap.size := by simp [fourW, World.setCell]
theorem infHead : (Tryz.prog.info? 196).map (·.size) = some 8 := by kernel_rfl

set_option maxHeartbeats 2000000 in
theorem headOf_any (xs : Bs) (A : Option Addr) (n c : Nat) (hn : n = xs.length) (hln : n ≤ 65536) (w : World) (hr : Row w A (cellsB xs)) :
  Calls Tryz.prog 113 #[.slice A n c] w fun e w' => e = .returned (.agg (cellsB (headB xs)).toArray) ∧ Below w.heap.size w w' := by
 have L0 := Loc.new w #[.int .u8 0, .int .u8 0, .int .u8 0, .int .u8 0, .int .u8 0, .int .u8 0, .int .u8 0, .int .u8 0] 196
 have L1 := Loc.new (w.alloc (.cells #[.int .u8 0, .int .u8 0, .int .u8 0, .int .u8 0, .int .u8 0, .int .u8 0, .int .u8 0, .int .u8 0] 196)) #[.int .u8 0, .int .u8 0, .int .u8 0, .int .u8 0, .int .u8 0, .int .u8 0, .int .u8 0, .int .u8 0] 196
 have bw0 := (Below.refl w.heap.size w).alloc (Nat.le_refl _) (.cells #[.int .u8 0, .int .u8 0, .int .u8 0, .int .u8 0, .int .u8 0, .int .u8 0, .int .u8 0, .int .u8 0] 196)
 have bw1 := Below.alloc' (by simp) (.cells #[.int .u8 0, .int .u8 0, .int .u8 0, .int .u8 0, .int .u8 0, .int .u8 0, .int .u8 0, .int .u8 0] 196) bw0
 have hu := u32wrap n (by omega)
 have L00 := L0.alloc (.cells #[.int .u8 0, .int .u8 0, .int .u8 0, .int .u8 0, .int .u8 0, .int .u8 0, .int .u8 0, .int .u8 0] 196)
 rw [World.size_alloc] at L1
 have HN := Lib.hid hn
 have HR := Lib.hid hr
 clear hn hr
 go_enter Tryz.func113, Tryz.ntmps113
 go_upto_region 2 with (fail)
 obtain ⟨W1, hW1⟩ : ∃ W1, W1 = ((w.alloc (.cells #[.int .u8 0, .int .u8 0, .int .u8 0, .int .u8 0, .int .u8 0, .int .u8 0, .int .u8 0, .int .u8 0] 196)).alloc (.cells #[.int .u8 0, .int .u8 0, .int .u8 0, .int .u8 0, .int .u8 0, .int .u8 0, .int .u8 0, .int .u8 0] 196)) := ⟨_, rfl⟩
 rw [← hW1] at L1 L00 bw1
 try rw [← hW1]
 clear hW1
 have hsz := L1.lt
 have H4 := four_any (w.heap.size + 1) 0 8 n (by omega) W1 (fun j hj => by rw [L1.cell]; rcases (by omega : j = 0 ∨ j = 1 ∨ j = 2 ∨ j = 3) with rfl | rfl | rfl | rfl <;> exact ⟨0, rfl⟩) (fun j => L1.free _)
 have L2 := L1.four 0 n
 have L02 := L00.four' (b' := w.heap.size + 1) (by omega) 0 n
 have b2 := four_below (b := w.heap.size + 1) bw1 (by omega) 0 n
 have hs2 := four_size W1 (w.heap.size + 1) 0 n
 have HC4 := Lib.hid H4
 clear H4 L0 bw0 bw1 L1 L00
 go_upto_region 3 with (go_at_call 136; refine HC4.out.mono ?_; rintro e w2 ⟨rfl, rfl⟩)
 obtain ⟨w2, hw2⟩ : ∃ w2, w2 = fourW W1 (w.heap.size + 1) 0 n := ⟨_, rfl⟩
 rw [← hw2] at L2 L02 b2 hs2 ⊢
 clear hw2
 have HOf : ∀ W, Loc W (w.heap.size + 1) (cellsB (le4 n ++ [0, 0, 0, 0])).toArray 196 → Calls Tryz.prog 103 #[.slice (some ⟨w.heap.size + 1, 0, none⟩) 4 8] W fun e w' => e = .returned (.int .u32 (crcUpd 0 (le4 n) : Nat)) ∧ Below W.heap.size W w' := fun W hW =>
  of_any (le4 n) (some ⟨w.heap.size + 1, 0, none⟩) 4 8 rfl (by decide) W (by
   refine .inr ⟨_, 0, rfl, fun j hj => ?_⟩
   have hj4 : j < 4 := hj
   rw [hW.cell]
   rcases (by omega : j = 0 ∨ j = 1 ∨ j = 2 ∨ j = 3) with rfl | rfl | rfl | rfl <;> rfl)
 obtain ⟨s1, hs1⟩ : ∃ s1, s1 = crcUpd 0 (le4 n) := ⟨_, rfl⟩
 have hl1 : s1 < 4294967296 := by rw [hs1]; exact crcUpd_lt _ _
 rw [← hs1] at HOf
 obtain ⟨s2, hs2'⟩ : ∃ s2, s2 = crcUpd s1 xs := ⟨_, rfl⟩
 have hl2 : s2 < 4294967296 := by rw [hs2']; exact crcUpd_lt _ _
 have HS : Hid (headB xs = le4 n ++ le4 s2) := Lib.hid (by rw [headB, ← HN.out, ← hs1, ← hs2'])
 have HUp : ∀ W, Below w.heap.size w W → Calls Tryz.prog 102 #[.int .u32 s1, .slice A n c] W fun e w' => e = .returned (.int .u32 s2) ∧ Below W.heap.size W w' := fun W hW => by
  rw [hs2']
  exact update_any s1 hl1 xs A n c HN.out (by omega) W (HR.out.of_below hW (Nat.le_refl _))
 have H4 : ∀ W, Loc W (w.heap.size + 1) (cellsB (le4 n ++ [0, 0, 0, 0])).toArray 196 → Calls Tryz.prog 136 #[.slice (some ⟨w.heap.size + 1, 4, none⟩) 4 4, .int .u32 s2] W fun e w' => e = .returned (.tuple #[]) ∧ w' = fourW W (w.heap.size + 1) 4 s2 := fun W hW =>
  four_any (w.heap.size + 1) 4 4 s2 hl2 W (fun j hj => by rw [hW.cell]; rcases (by omega : j = 0 ∨ j = 1 ∨ j = 2 ∨ j = 3) with rfl | rfl | rfl | rfl <;> exact ⟨0, rfl⟩) (fun j => hW.free _)
 have L3 : Loc w2 (w.heap.size + 1) (cellsB (le4 n ++ [0, 0, 0, 0])).toArray 196 := L2
 have HO := Lib.hid HOf
 have HU := Lib.hid HUp
 have HF := Lib.hid H4
 clear HOf HUp H4 hs1 hs2' L2
 go_region_held3 (fun _ => True) (trivial) ((first | (go_at_call 103; refine (HO.out _ (Loc.drew L3)).mono ?_; rintro e w3 ⟨rfl, b3⟩) | (go_at_call 102; refine (HU.out _ (below_then b2.drew b3 b2.size)).mono ?_; rintro e w4 ⟨rfl, b4⟩) | (go_at_call 136; refine (HF.out _ (Loc.below (Loc.below (Loc.drew L3) b3 L3.lt) b4 (Nat.lt_of_lt_of_le L3.lt b3.size))).mono ?_; rintro e w5 ⟨rfl, rfl⟩)))
 obtain ⟨w5, hw5⟩ : ∃ w5, w5 = fourW w4 (w.heap.size + 1) 4 s2 := ⟨_, rfl⟩
 have K4 := Loc.below (Loc.below (Loc.drew L02) b3 L02.lt) b4 (Nat.lt_of_lt_of_le L02.lt b3.size)
 have K5 := K4.four' (b' := w.heap.size + 1) (by omega) 4 s2
 have L4 := Loc.below (Loc.below (Loc.drew L3) b3 L3.lt) b4 (Nat.lt_of_lt_of_le L3.lt b3.size)
 have L5 : Loc (fourW w4 (w.heap.size + 1) 4 s2) (w.heap.size + 1) (cellsB (headB xs)).toArray 196 := by rw [HS.out]; exact L4.four 4 s2
 have b5 := four_below (b := w.heap.size + 1) (below_then (below_then b2.drew b3 b2.size) b4 (Nat.le_trans b2.size b3.size)) (by omega) 4 s2
 rw [← hw5] at K5 L5 b5 ⊢
 clear hw5 K4 L4 b3 b4 L02 L3 b2 hs2
 obtain ⟨C, hC⟩ : ∃ C, C = (cellsB (headB xs)).toArray := ⟨_, rfl⟩
 rw [← hC] at L5
 have hCs : C.size = 8 := by rw [hC]; rfl
 have hCo : ∀ i (h : i < C.size), C[i].oneCell' = true := by
  subst hC
  exact fun i h => cellsB_one _ _ (by simpa using List.getElem_mem (l := cellsB (headB xs)) (by simpa using h))
 have HC := Lib.hid hC
 clear hC
 go_upto_region 4 with (fail)
 refine wp_absA (fun A => A.tmps.getD 3 undef = .pointer (some ⟨w.heap.size + 1, 0, none⟩) ∧ A.tmps.getD 2 undef = .pointer (some ⟨w.heap.size, 0, none⟩) ∧ A.tmps.size = 16 ∧ A.defers = []) ⟨rfl, rfl, rfl, rfl⟩ ?_
 rintro act ⟨e1, e0, esz, edf⟩
 refine wp_region_lit ?_
 refine wpList_load_row rfl 196 (.tmp 3) rfl _ (by rw [eval_tmp]; exact e1) 196 _ (0, 0) _ L5 Tryz.underlying196 rfl (by rw [hCs]; exact infHead) ?_
 refine wpList_store_row rfl 196 (.tmp 2) (.tmp 15) rfl w.heap.size C (by rw [eval_tmp, getD_put_other _ _ _ _ (by decide)]; exact e0) (by rw [eval_tmp, getD_put_same _ _ _ (by omega)]) 196 _ K5 (by rw [hCs]; exact infHead) (by rw [hCs]; rfl) (all_of_one hCo) ?_
 refine wpList_nil ?_
 rename_i hK
 refine hK _ _ (wp_ret ?_)
 have hrow := setRow_heap w5 w.heap.size _ C 196 _ K5
 refine bodyPost_ret (v := .agg C) (results_cell_row rfl _ _ w.heap.size 196 C (0, 0) _ ?_ hrow Tryz.underlying196 rfl (by rw [hCs]; exact infHead)) edf ⟨by rw [HC.out], ?_⟩
 ·show ((act.put (some 15) (.agg C)).put none _).tmps.getD 2 undef = _
  exact (getD_put_other _ _ _ _ (by decide)).trans e0
 ·exact ⟨b5.os, b5.tape, b5.output, by rw [size_setRow]; exact b5.size, fun k hk => by rw [setRow_other w5 _ k _ (by omega)]; exact b5.block k hk⟩
end Go.Proofs.YtnieminnnkbneaaGreat

namespace Go.Proofs.YtnieminnnkbneaaGreat
open Go.RowKit

theorem zeros_size (n : Nat) : (Builtin.zeroCells (Value.int .u8 0).cells n).size = n := by
 simp [Builtin.zeroCells, Value.cells]

set_option maxHeartbeats 1000000 in
theorem grow_any (k : Nat) (h0 : 0 < k) (hk : k ≤ 100000000) (w : World) :
  Calls Tryz.prog 137 #[.slice none 0 0, .int .i64 k] w fun e w' => ∃ g c, e = .returned (.slice (some ⟨g, 0, none⟩) 0 c) ∧ w'.ownsRow w.heap.size 5 1 (.slice (some ⟨g, 0, none⟩) 0 c) 0 [] ∧ Below w.heap.size w w' := by
 obtain ⟨i, hi, hz, hsize, hby⟩ := info_parts infoU8
 have hr : ∀ W : World, ∃ C c, (Builtin.append_ #[33, 3] 33 #[.slice none 0 0, .int .i64 k]).run Tryz.prog W = .ok (.slice (some ⟨W.heap.size, 0, none⟩) k c) (W.drew.alloc (.cells C 5)) ∧ C.size = c ∧ k ≤ c ∧ c ≤ maxLen := by
  intro W
  have hr := Lib.run_append_grow_zeros (P := Tryz.prog) W 33 3 33 5 i (.int .u8 0) .i64 .i64 Tryz.underlying33 Tryz.underlying3 hi hz none 0 0 [] (by
   rw [hsize]; rfl) k h0 (by omega) (by omega) (by omega) (by rw [hby]; omega) (by rw [hby]; exact growslice_fits (by omega) (by omega))
  rw [Nat.zero_add] at hr
  have hge := grownCap_ge W k 0 5
  have hcl : grownCap W k 0 5 ≤ maxLen := grownCap_le_maxLen W k 0 5 (by simp only [maxLen]; omega)
  exact ⟨_, _, hr, by simp only [Array.size_append, zeros_size]; simp; omega, hge, hcl⟩
 have hwk : IntKind.i64.wrap (k : Int) = (k : Int) := by simp [IntKind.bits, IntKind.wrap, IntKind.signed]; omega
 have hk1 : (0 : Int) < (k : Int) := by omega
 have hk2 : ¬ (k : Int) < 0 := by omega
 have hsz1 : (Tryz.prog.info? 5).map (·.size) = some 1 := by kernel_rfl
 clear hi hz hsize hby i
 go_enter Tryz.func137, Tryz.ntmps137
 go_wp2_with (at_builtin; obtain ⟨C, c, hrun, hC, hkc, hcm⟩ := hr _; refine Lib.wpList_append_run _ rfl _ _ 33 3 rfl _ _ rfl rfl _ _ hrun ?_)
 go_ret
 exact ⟨_, c, rfl, ⟨by simp, .inr ⟨w.heap.size, c, C, rfl, Nat.le_refl _, heap_alloc_new w.drew _, Nat.zero_le _, hcm, by omega, by simp⟩⟩, Below.alloc (Below.refl w.heap.size w).drew (Nat.le_refl _) _⟩

set_option maxHeartbeats 4000000 in
theorem concat_any (xs ys zs : Bs) (A B C : Option Addr) (n m k ca cb cc : Nat) (hn : n = xs.length) (hm : m = ys.length) (hk : k = zs.length) (h0 : 0 < m) (hlen : n + m + k ≤ 100000000)
  (b cap : Nat) (w : World) (hA : Row w A (cellsB xs)) (hB : Row w B (cellsB ys)) (hC : Row w C (cellsB zs)) (zA : A = none → n = 0) (zB : B = none → m = 0) (zC : C = none → k = 0)
  (hs : Loc w b #[.slice A n ca, .slice B m cb, .slice C k cc] 33) :
  Calls Tryz.prog 114 #[.slice (some ⟨b, 0, none⟩) 3 cap] w fun e w' => ∃ g c, e = .returned (.slice (some ⟨g, 0, none⟩) (n + m + k) c) ∧ w'.ownsRow w.heap.size 5 1 (.slice (some ⟨g, 0, none⟩) (n + m + k) c) (n + m + k) (cellsB (xs ++ ys ++ zs)) ∧ Below w.heap.size w w' := by
 have w0 : IntKind.i64.wrap (n : Int) = (n : Int) := by simp [IntKind.bits, IntKind.wrap, IntKind.signed]; omega
 have w1 : IntKind.i64.wrap ((n : Int) + (m : Int)) = (n : Int) + (m : Int) := by simp [IntKind.bits, IntKind.wrap, IntKind.signed]; omega
 have w2 : IntKind.i64.wrap ((n : Int) + (m : Int) + (k : Int)) = (n : Int) + (m : Int) + (k : Int) := by simp [IntKind.bits, IntKind.wrap, IntKind.signed]; omega
 have q0 : ¬ (n : Int) < 0 := by omega
 have q1 : ¬ (n : Int) + (m : Int) < 0 := by omega
 have q2 : ¬ (n : Int) + (m : Int) + (k : Int) < 0 := by omega
 have HG := Lib.hid (grow_any (n + m + k) (by omega) hlen w)
 have c0 := hs.cell 0
 have c1 := hs.cell 1
 have c2 := hs.cell 2
 simp at c0 c1 c2
 have HS := Lib.hid hs
 have HA := Lib.hid hA; have HB := Lib.hid hB; have HC := Lib.hid hC
 have HN := Lib.hid hn; have HM := Lib.hid hm; have HK := Lib.hid hk
 have ZA := Lib.hid zA; have ZB := Lib.hid zB; have ZC := Lib.hid zC
 clear hs hA hB hC hn hm hk zA zB zC
 go_enter Tryz.func114, Tryz.ntmps114
 go_wp2
 refine wp_loop_rounds 4 ?_
 rw [rounds_succ]; go_wp2
 rw [rounds_succ]; go_wp2
 rw [rounds_succ]; go_wp2
 rw [rounds_succ]
 have hcast : ((n + m + k : Nat) : Int) = (n : Int) + (m : Int) + (k : Int) := by omega
 have hG := HG.out
 rw [hcast] at hG
 have HG' := Lib.hid hG
 clear hG HG hcast
 go_wp2_with (go_at_call 137; refine HG'.out.mono ?_; rintro e w3 ⟨g3, c3, rfl, own3, b3⟩)
 have d0 := (HS.out.below b3 HS.out.lt).cell 0
 have d1 := (HS.out.below b3 HS.out.lt).cell 1
 have d2 := (HS.out.below b3 HS.out.lt).cell 2
 simp at d0 d1 d2
 clear c0 c1 c2 HG'
 have hb := HS.out.lt
 refine wp_loop_rounds 4 ?_
 have hs0 : Src Tryz.prog 1 33 (.slice A n ca) n (cellsB xs) w3 := (HA.out.of_below b3 (Nat.le_refl _)).src Tryz.underlying33 (by simp [cellsB, HN.out]) (cellsB_one xs) ZA.out
 rw [rounds_succ]; go_wp2_with (at_builtin; refine wpList_append_mine _ rfl _ _ 33 33 rfl 5 (.int .u8 0) 1 1 Tryz.underlying33 infoU8 rfl (by decide) (.slice (some ⟨g3, 0, none⟩) 0 c3) 0 [] rfl (owns_base (base' := 0) own3 (fun _ _ => Nat.zero_le _)) (.slice A n ca) n (cellsB xs) rfl hs0 (by unfold maxLen; omega) (by omega) ?_; intro A4 c4 w4 hown4 hg4 hb4 hx4; obtain ⟨own4, b4⟩ := own_next0 own3 hown4 hg4 hb4 b3.size b3; rw [Nat.zero_add, List.nil_append] at own4)
 have d1 := (HS.out.below b4 HS.out.lt).cell 1
 have d2 := (HS.out.below b4 HS.out.lt).cell 2
 simp at d1 d2
 have hs1 : Src Tryz.prog 1 33 (.slice B m cb) m (cellsB ys) w4 := (HB.out.of_below b4 (Nat.le_refl _)).src Tryz.underlying33 (by simp [cellsB, HM.out]) (cellsB_one ys) ZB.out
 clear hown4 hg4 hb4 hx4 hs0 own3 d0
 rw [rounds_succ]; go_wp2_with (at_builtin; refine wpList_append_mine _ rfl _ _ 33 33 rfl 5 (.int .u8 0) 1 1 Tryz.underlying33 infoU8 rfl (by decide) (.slice A4 n c4) n (cellsB xs) rfl (owns_base (base' := 0) own4 (fun _ _ => Nat.zero_le _)) (.slice B m cb) m (cellsB ys) rfl hs1 (by unfold maxLen; omega) (by omega) ?_; intro A5 c5 w5 hown5 hg5 hb5 hx5; obtain ⟨own5, b5⟩ := own_next0 own4 hown5 hg5 hb5 b4.size b4)
 have d2 := (HS.out.below b5 HS.out.lt).cell 2
 simp at d2
 have hs2 : Src Tryz.prog 1 33 (.slice C k cc) k (cellsB zs) w5 := (HC.out.of_below b5 (Nat.le_refl _)).src Tryz.underlying33 (by simp [cellsB, HK.out]) (cellsB_one zs) ZC.out
 clear hown5 hg5 hb5 hx5 hs1 own4 d1
 rw [rounds_succ]; go_wp2_with (at_builtin; refine wpList_append_mine _ rfl _ _ 33 33 rfl 5 (.int .u8 0) 1 1 Tryz.underlying33 infoU8 rfl (by decide) (.slice A5 (n + m) c5) (n + m) (cellsB xs ++ cellsB ys) rfl (owns_base (base' := 0) own5 (fun _ _ => Nat.zero_le _)) (.slice C k cc) k (cellsB zs) rfl hs2 (by unfold maxLen; omega) (by omega) ?_; intro A6 c6 w6 hown6 hg6 hb6 hx6; obtain ⟨own6, b6⟩ := own_next0 own5 hown6 hg6 hb6 b5.size b5)
 clear hown6 hg6 hb6 hx6 hs2 own5 d2
 rw [rounds_succ]; go_wp2
 go_ret
 rw [cellsB_append, cellsB_append]
 rcases own6.2 with ⟨_, h0'⟩ | ⟨g, c, cur, he, _⟩
 ·omega
 ·simp only [Value.slice.injEq] at he
  obtain ⟨rfl, _, rfl⟩ := he
  exact ⟨g, c6, rfl, own6, b6⟩

set_option maxHeartbeats 2000000 in
theorem seal_any (xs ys : Bs) (A B : Option Addr) (n m ca cb : Nat) (hn : n = xs.length) (hm : m = ys.length) (h0 : 0 < m) (hm6 : m ≤ 65536) (hlen : n ≤ 90000000) (w : World) (hA : Row w A (cellsB xs)) (hB : Row w B (cellsB ys)) (zA : A = none → n = 0) (zB : B = none → m = 0) :
  Calls Tryz.prog 79 #[.slice A n ca, .slice B m cb] w fun e w' => ∃ g c, e = .returned (.tuple #[.slice (some ⟨g, 0, none⟩) (n + 8 + m) c, .int .i64 0]) ∧ w'.ownsRow w.heap.size 5 1 (.slice (some ⟨g, 0, none⟩) (n + 8 + m) c) (n + 8 + m) (cellsB (xs ++ headB ys ++ ys)) ∧ Below w.heap.size w w' := by
 have i0 : ¬ (m : Int) = 0 := by omega
 have i1 : ¬ (65536 : Int) < (m : Int) := by omega
 obtain ⟨H, hH⟩ : ∃ H, H = (cellsB (headB ys)).toArray := ⟨_, rfl⟩
 have hHs : H.size = 8 := by rw [hH]; rfl
 have hHo : ∀ i (h : i < H.size), H[i].oneCell' = true := by
  subst hH
  exact fun i h => cellsB_one _ _ (by simpa using List.getElem_mem (l := cellsB (headB ys)) (by simpa using h))
 have HO := Lib.hid (headOf_any ys B m cb hm hm6 w hB)
 rw [← hH] at HO
 have HH := Lib.hid hH
 have HA := Lib.hid hA; have HB := Lib.hid hB
 have HN := Lib.hid hn; have HM := Lib.hid hm
 have ZA := Lib.hid zA; have ZB := Lib.hid zB
 clear hH hA hB hn hm zA zB
 go_enter Tryz.func79, Tryz.ntmps79
 go_upto_region 5 with (fail)
 go_upto_region 6 with (go_at_call 113; refine HO.out.mono ?_; rintro e w1 ⟨rfl, b1⟩; have hst := fun (c0 : Array Value) (h0 : c0.size = 8) W => store_new 196 H (by rw [hHs]; exact infHead) hHo c0 (by rw [h0, hHs]) W)
 have L2 := Loc.new w1 H 196
 obtain ⟨g1, hg1⟩ : ∃ g1, g1 = w1.heap.size := ⟨_, rfl⟩
 obtain ⟨W2, hW2⟩ : ∃ W2, W2 = w1.alloc (.cells H 196) := ⟨_, rfl⟩
 have b2 : Below w.heap.size w W2 := by rw [hW2]; exact Below.alloc' b1.size _ b1
 rw [← hW2, ← hg1] at L2
 rw [← hW2, ← hg1]
 clear hst hW2 hg1 b1
 have b3 : Below w.heap.size w (W2.alloc (.cells #[.slice A n ca, .slice (some ⟨g1, 0, none⟩) 8 8, .slice B m cb] 33)) := Below.alloc' b2.size _ b2
 have hrH : Row (W2.alloc (.cells #[.slice A n ca, .slice (some ⟨g1, 0, none⟩) 8 8, .slice B m cb] 33)) (some ⟨g1, 0, none⟩) (cellsB (headB ys)) := by
  refine .inr ⟨_, 0, rfl, fun j _ => ?_⟩
  rw [(L2.alloc _).cell, HH.out, Nat.zero_add]
  simp
 have HCC := Lib.hid (concat_any xs (headB ys) ys A (some ⟨g1, 0, none⟩) B n 8 m ca 8 cb HN.out rfl HM.out (by decide) (by omega) W2.heap.size 3 _ (HA.out.of_below b3 (Nat.le_refl _)) hrH (HB.out.of_below b3 (Nat.le_refl _)) ZA.out (fun h => by cases h) ZB.out (Loc.new W2 _ _))
 clear hrH L2
 go_wp2_with (go_at_call 114; refine HCC.out.mono ?_; rintro e w4 ⟨g4, c4, rfl, own4, b4⟩)
 go_ret2
 exact ⟨g4, c4, rfl, owns_mono own4 b3.size, below_then b3 b4 b3.size⟩
end Go.Proofs.YtnieminnnkbneaaGreat

namespace Go.Proofs.YtnieminnnkbneaaGreat
open Go.RowKit

theorem run_subFrom {P : Program} (t e : TypeId) (size : Nat) (hu : P.underlying t = some (.slice e)) (hs : (P.info? e).map (·.size) = some size) (A : Option Addr) (len cap lo : Nat) (h1 : lo ≤ len) (W : World) :
  (Instr.slice t (.slice A len cap) (some (.int .i64 (lo : Int))) none none).run P W = .ok (.slice (subAddr A lo cap size) (len - lo) (cap - lo)) W := by
 obtain ⟨i, hi', hsz⟩ : ∃ i, P.info? e = some i ∧ i.size = size := by
  cases h : P.info? e with
  | none => simp [h] at hs
  | some i => exact ⟨i, rfl, by simpa [h] using hs⟩
 have el : (lo : Int).toNat = lo := rfl
 simp [Instr.slice, run_underlying hu, Instr.sliceBounds, run_sliceBound, sizeOf, typeInfo, hi', hsz, subAddr, h1]

theorem subAddr_at (b off lo cap : Nat) (h : lo < cap) : subAddr (some ⟨b, off, none⟩) lo cap 1 = some ⟨b, off + lo, none⟩ := by
 unfold subAddr
 rw [if_neg (by omega)]
 simp only [Option.map_some, Nat.mul_one]
 congr 1
 unfold Addr.add
 split <;> simp_all

theorem hszU8 : (Tryz.prog.info? 5).map (·.size) = some 1 := by kernel_rfl

/-- The word at a place. -/
def wordAt (xs : Bs) (p : Nat) : Nat := wordOf (xs.getD p 0) (xs.getD (p + 1) 0) (xs.getD (p + 2) 0) (xs.getD (p + 3) 0)
theorem wordAt_lt (xs : Bs) (p : Nat) : wordAt xs p < 4294967296 := wordOf_lt _ _ _ _
/-- The body of the frame at a place. -/
def bodyAt (xs : Bs) (p : Nat) : Bs := (xs.drop (p + 8)).take (wordAt xs p)
/-- Why there is no frame at a place. -/
def nextE (xs : Bs) (p : Nat) : Nat :=
 if p = xs.length then 12
 else if xs.length - p < 8 then 13
 else if wordAt xs p = 0 ∨ 65536 < wordAt xs p ∨ xs.length - p - 8 < wordAt xs p then 13
 else if wordAt xs (p + 4) = crcUpd (crcUpd 0 ((xs.drop p).take 4)) (bodyAt xs p) then 0
 else 13

theorem rowAt {W : World} {b off : Nat} {xs : Bs} (h : ∀ j (hj : j < xs.length), W.cell? ⟨b, off + j, none⟩ = some (.int .u8 xs[j].toNat)) (p m : Nat) (hm : p + m ≤ xs.length) : Row W (some ⟨b, off + p, none⟩) (cellsB ((xs.drop p).take m)) := by
 refine .inr ⟨b, off + p, rfl, fun j hj => ?_⟩
 have hj' : j < m := by rw [cellsB_length, List.length_take] at hj; omega
 rw [Nat.add_assoc, h (p + j) (by omega)]
 simp [cellsB, hj', List.getElem?_drop, List.getElem?_eq_getElem (show p + j < xs.length by omega)]

theorem wordR_any (xs : Bs) (b off n p cap : Nat) (hn : p + 4 ≤ n) (hl : n = xs.length) (w : World) (h : ∀ j (hj : j < xs.length), w.cell? ⟨b, off + j, none⟩ = some (.int .u8 xs[j].toNat)) :
  Calls Tryz.prog 101 #[.slice (some ⟨b, off + p, none⟩) (n - p) cap] w fun e w' => e = .returned (.int .u32 (wordAt xs p : Nat)) ∧ Below w.heap.size w w' := by
 have hx : ∀ j, p + j < xs.length → w.cell? ⟨b, off + p + j, none⟩ = some (u8v (xs.getD (p + j) 0)) := fun j hj => by
  rw [Nat.add_assoc, h (p + j) hj, List.getD_eq_getElem?_getD, List.getElem?_eq_getElem hj]
  rfl
 exact word_any b (off + p) (n - p) cap (by omega) _ _ _ _ w (hx 0 (by omega)) (hx 1 (by omega)) (hx 2 (by omega)) (hx 3 (by omega))

/-- What next answers. -/
def NextP (xs : Bs) (b off n c p : Nat) (v : Value) : Prop :=
 (nextE xs p ≠ 0 ∧ v = .tuple #[.slice none 0 0, .int .i64 0, .int .i64 (nextE xs p : Nat)]) ∨
 (nextE xs p = 0 ∧ 0 < wordAt xs p ∧ wordAt xs p ≤ 65536 ∧ p + 8 + wordAt xs p ≤ n ∧ v = .tuple #[.slice (some ⟨b, off + (p + 8), none⟩) (wordAt xs p) (c - (p + 8)), .int .i64 (p + 8 + wordAt xs p : Nat), .int .i64 0])

set_option maxHeartbeats 4000000 in
theorem next_any (xs : Bs) (b off n c p : Nat) (hn : n = xs.length) (hnc : n ≤ c) (hlen : n ≤ 1000000000) (hp : p ≤ n) (w : World) (hA : ∀ j (hj : j < xs.length), w.cell? ⟨b, off + j, none⟩ = some (.int .u8 xs[j].toNat)) :
  Calls Tryz.prog 56 #[.slice (some ⟨b, off, none⟩) n c, .int .i64 p] w fun e w' => (∃ v, e = .returned v ∧ NextP xs b off n c p v) ∧ Below w.heap.size w w' := by
 have hcell : n ≠ 0 → ∀ W, Below w.heap.size w W → ∀ j (hj : j < xs.length), W.cell? ⟨b, off + j, none⟩ = some (.int .u8 xs[j].toNat) := fun h0 W hW j hj => by
  rw [← hA j hj]
  exact hW.cell (p := ⟨b, off + j, none⟩) (World.block_lt_of_cell? w _ (hA j hj))
 have HA := Lib.hid hcell
 have HN := Lib.hid hn
 clear hA hcell
 have i0 : ¬ (p : Int) < 0 := by omega
 have i1 : ¬ (n : Int) < (p : Int) := by omega
 by_cases hpn : p = n
 ·obtain rfl : p = n := hpn
  have e0 : ((p : Int) == (p : Int)) = true := by simp
  have hv : NextP xs b off p c p (.tuple #[.slice none 0 0, .int .i64 0, .int .i64 12]) := .inl (by
   have : nextE xs p = 12 := by unfold nextE; rw [if_pos (by omega)]
   rw [this]; exact ⟨by decide, rfl⟩)
  have HV := Lib.hid hv
  clear hv hn
  go_enter Tryz.func56, Tryz.ntmps56
  go_wp2
  go_ret3
  exact ⟨⟨_, rfl, HV.out⟩, Below.refl _ _⟩
 ·have e0 : ((p : Int) == (n : Int)) = false := by simp; omega
  have hw1 : IntKind.i64.wrap ((n : Int) - (p : Int)) = (n : Int) - (p : Int) := by simp [IntKind.bits, IntKind.wrap, IntKind.signed]; omega
  by_cases h8 : n - p < 8
  ·have e1 : (n : Int) - (p : Int) < 8 := by omega
   have hv : NextP xs b off n c p (.tuple #[.slice none 0 0, .int .i64 0, .int .i64 13]) := .inl (by
    have : nextE xs p = 13 := by unfold nextE; rw [if_neg (by omega), if_pos (by omega)]
    rw [this]; exact ⟨by decide, rfl⟩)
   have HV := Lib.hid hv
   clear hv hn
   go_enter Tryz.func56, Tryz.ntmps56
   go_wp2
   go_ret3
   exact ⟨⟨_, rfl, HV.out⟩, Below.refl _ _⟩
  ·have e1 : ¬ (n : Int) - (p : Int) < 8 := by omega
   have hs7 : ∀ W, (Instr.slice 33 (.slice (some ⟨b, off, none⟩) n c) (some (.int .i64 (p : Int))) none none).run Tryz.prog W = .ok (.slice (some ⟨b, off + p, none⟩) (n - p) (c - p)) W := fun W => by
    rw [run_subFrom (P := Tryz.prog) 33 5 1 Tryz.underlying33 hszU8 _ n c p hp W, subAddr_at _ _ _ _ (by omega)]
   have HW := Lib.hid (fun W (hW : Below w.heap.size w W) => wordR_any xs b off n p (c - p) (by omega) hn W (HA.out (by omega) W hW))
   clear hn
   go_enter Tryz.func56, Tryz.ntmps56
   go_upto_region 8 with (go_at_call 101; refine (HW.out _ (Below.refl _ _)).mono ?_; rintro e w1 ⟨rfl, b1⟩)
   obtain ⟨K, hK⟩ : ∃ K, K = wordAt xs p := ⟨_, rfl⟩
   have hKl : K < 4294967296 := by rw [hK]; exact wordAt_lt _ _
   rw [← hK]
   have hwk : IntKind.i64.wrap (K : Int) = (K : Int) := by simp [IntKind.bits, IntKind.wrap, IntKind.signed]; omega
   have hw2 : IntKind.i64.wrap ((n : Int) - (p : Int) - 8) = (n : Int) - (p : Int) - 8 := by simp [IntKind.bits, IntKind.wrap, IntKind.signed]; omega
   have HK := Lib.hid hK
   clear hK HW
   by_cases hbad : K = 0 ∨ 65536 < K ∨ n - p - 8 < K
   ·have hv : NextP xs b off n c p (.tuple #[.slice none 0 0, .int .i64 0, .int .i64 13]) := .inl (by
     have : nextE xs p = 13 := by
      unfold nextE
      rw [← HN.out, ← HK.out, if_neg hpn, if_neg h8, if_pos hbad]
     rw [this]; exact ⟨by decide, rfl⟩)
    have HV := Lib.hid hv
    clear hv
    by_cases hk0 : K = 0
    ·subst hk0
     go_wp2
     go_ret3
     exact ⟨⟨_, rfl, HV.out⟩, b1⟩
    ·have k0 : ((K : Int) == 0) = false := by simp; omega
     by_cases hk1 : 65536 < K
     ·have k1 : (65536 : Int) < (K : Int) := by omega
      clear hbad
      go_wp2
      go_ret3
      exact ⟨⟨_, rfl, HV.out⟩, b1⟩
     ·have k1 : ¬ (65536 : Int) < (K : Int) := by omega
      have k2 : (n : Int) - (p : Int) - 8 < (K : Int) := by omega
      clear hbad
      go_wp2
      go_ret3
      exact ⟨⟨_, rfl, HV.out⟩, b1⟩
   ·have k0 : ((K : Int) == 0) = false := by simp; omega
    have k1 : ¬ (65536 : Int) < (K : Int) := by omega
    have k2 : ¬ (n : Int) - (p : Int) - 8 < (K : Int) := by omega
    have hK1 : 1 ≤ K ∧ K ≤ 65536 ∧ p + 8 + K ≤ n := by omega
    have HBAD := Lib.hid hbad
    clear hbad
    have hsub : ∀ (lo hi : Nat) (il ih : Int), il = (lo : Int) → ih = (hi : Int) → lo ≤ hi → lo < c → hi ≤ c → ∀ W, (Instr.slice 33 (.slice (some ⟨b, off, none⟩) n c) (some (.int .i64 il)) (some (.int .i64 ih)) none).run Tryz.prog W = .ok (.slice (some ⟨b, off + lo, none⟩) (hi - lo) (c - lo)) W := fun lo hi il ih e1 e2 h1 h2 h3 W => by
     rw [e1, e2, run_subs (P := Tryz.prog) 33 5 1 Tryz.underlying33 hszU8 _ n c lo hi h1 h3 W, subAddr_at _ _ _ _ h2]
    have hs10 := hsub (p + 8) (p + 8 + K) ((p : Int) + 8) ((p : Int) + 8 + (K : Int)) (by omega) (by omega) (by omega) (by omega) (by omega)
    rw [show p + 8 + K - (p + 8) = K by omega] at hs10
    have hs11 := hsub p (p + 4) (p : Int) ((p : Int) + 4) rfl (by omega) (by omega) (by omega) (by omega)
    rw [show p + 4 - p = 4 by omega] at hs11
    have hs12 : ∀ W, (Instr.slice 33 (.slice (some ⟨b, off, none⟩) n c) (some (.int .i64 ((p : Int) + 4))) none none).run Tryz.prog W = .ok (.slice (some ⟨b, off + (p + 4), none⟩) (n - (p + 4)) (c - (p + 4))) W := fun W => by
     rw [show ((p : Int) + 4) = ((p + 4 : Nat) : Int) by omega, run_subFrom (P := Tryz.prog) 33 5 1 Tryz.underlying33 hszU8 _ n c (p + 4) (by omega) W, subAddr_at _ _ _ _ (by omega)]
    have hw3 : IntKind.i64.wrap ((p : Int) + 8) = (p : Int) + 8 := by simp [IntKind.bits, IntKind.wrap, IntKind.signed]; omega
    have hw4 : IntKind.i64.wrap ((p : Int) + 8 + (K : Int)) = (p : Int) + 8 + (K : Int) := by simp [IntKind.bits, IntKind.wrap, IntKind.signed]; omega
    have hw5 : IntKind.i64.wrap ((p : Int) + 4) = (p : Int) + 4 := by simp [IntKind.bits, IntKind.wrap, IntKind.signed]; omega
    obtain ⟨K2, hK2⟩ : ∃ K2, K2 = wordAt xs (p + 4) := ⟨_, rfl⟩
    obtain ⟨S1, hS1⟩ : ∃ S1, S1 = crcUpd 0 ((xs.drop p).take 4) := ⟨_, rfl⟩
    obtain ⟨S2, hS2⟩ : ∃ S2, S2 = crcUpd S1 (bodyAt xs p) := ⟨_, rfl⟩
    have HW2 : Hid (∀ W, Below w.heap.size w W → Calls Tryz.prog 101 #[.slice (some ⟨b, off + (p + 4), none⟩) (n - (p + 4)) (c - (p + 4))] W fun e w' => e = .returned (.int .u32 (K2 : Nat)) ∧ Below w.heap.size w w') := Lib.hid (fun W hW => by
     rw [hK2]
     exact (wordR_any xs b off n (p + 4) (c - (p + 4)) (by omega) HN.out W (HA.out (by omega) W hW)).mono (fun e w' h => ⟨h.1, below_then hW h.2 hW.size⟩))
    have HO2 : Hid (∀ W, Below w.heap.size w W → Calls Tryz.prog 103 #[.slice (some ⟨b, off + p, none⟩) 4 (c - p)] W fun e w' => e = .returned (.int .u32 (S1 : Nat)) ∧ Below w.heap.size w w') := Lib.hid (fun W hW => by
     rw [hS1]
     exact (of_any ((xs.drop p).take 4) _ 4 (c - p) (by have := HN.out; rw [List.length_take, List.length_drop]; omega) (by omega) W (rowAt (HA.out (by omega) W hW) p 4 (by have := HN.out; omega))).mono (fun e w' h => ⟨h.1, below_then hW h.2 hW.size⟩))
    have hS1l : S1 < 4294967296 := by rw [hS1]; exact crcUpd_lt _ _
    have HU2 : Hid (∀ W, Below w.heap.size w W → Calls Tryz.prog 102 #[.int .u32 (S1 : Nat), .slice (some ⟨b, off + (p + 8), none⟩) K (c - (p + 8))] W fun e w' => e = .returned (.int .u32 (S2 : Nat)) ∧ Below w.heap.size w w') := Lib.hid (fun W hW => by
     rw [hS2]
     have hrow := rowAt (HA.out (by omega) W hW) (p + 8) K (by have := HN.out; omega)
     have hbd : bodyAt xs p = (xs.drop (p + 8)).take K := by rw [bodyAt, ← HK.out]
     rw [hbd]
     exact (update_any S1 hS1l _ _ K (c - (p + 8)) (by have := HN.out; rw [List.length_take, List.length_drop]; omega) (by omega) W hrow).mono (fun e w' h => ⟨h.1, below_then hW h.2 hW.size⟩))
    have HE : Hid (nextE xs p = if K2 = S2 then 0 else 13) := Lib.hid (by
     unfold nextE
     rw [← HN.out, ← HK.out, if_neg hpn, if_neg h8, if_neg HBAD.out, ← hK2, ← hS1, ← hS2])
    have HK1 := Lib.hid hK1
    clear hsub hK2 hS1 hS2 hS1l hK1
    by_cases heq : K2 = S2
    ·subst heq
     have hv : NextP xs b off n c p (.tuple #[.slice (some ⟨b, off + (p + 8), none⟩) K (c - (p + 8)), .int .i64 ((p : Int) + 8 + (K : Int)), .int .i64 0]) := .inr ⟨by rw [HE.out, if_pos rfl], by rw [← HK.out]; exact HK1.out.1, by rw [← HK.out]; exact HK1.out.2.1, by rw [← HK.out]; exact HK1.out.2.2, by rw [← HK.out]; rfl⟩
     have HV := Lib.hid hv
     clear hv
     go_upto_region 11 with (fail)
     go_region_held3 (fun W => Below w.heap.size w W) ((first | assumption | exact Below.drew (by assumption))) ((first | (go_at_call 101; refine (HW2.out _ (by first | assumption | exact Below.drew (by assumption))).mono ?_; rintro e w2 ⟨rfl, b2⟩) | (go_at_call 103; refine (HO2.out _ (by first | assumption | exact Below.drew (by assumption))).mono ?_; rintro e w3 ⟨rfl, b3⟩) | (go_at_call 102; refine (HU2.out _ (by first | assumption | exact Below.drew (by assumption))).mono ?_; rintro e w4 ⟨rfl, b4⟩)))
     go_wp2
     go_ret3
     exact ⟨⟨_, rfl, HV.out⟩, by assumption⟩
    ·have hne : ((K2 : Int) == (S2 : Int)) = false := by simp; omega
     have hv : NextP xs b off n c p (.tuple #[.slice none 0 0, .int .i64 0, .int .i64 13]) := .inl (by
      rw [HE.out, if_neg heq]
      exact ⟨by decide, rfl⟩)
     have HV := Lib.hid hv
     clear hv heq
     go_upto_region 11 with (fail)
     go_region_held3 (fun W => Below w.heap.size w W) ((first | assumption | exact Below.drew (by assumption))) ((first | (go_at_call 101; refine (HW2.out _ (by first | assumption | exact Below.drew (by assumption))).mono ?_; rintro e w2 ⟨rfl, b2⟩) | (go_at_call 103; refine (HO2.out _ (by first | assumption | exact Below.drew (by assumption))).mono ?_; rintro e w3 ⟨rfl, b3⟩) | (go_at_call 102; refine (HU2.out _ (by first | assumption | exact Below.drew (by assumption))).mono ?_; rintro e w4 ⟨rfl, b4⟩)))
     go_wp2
     go_ret3
     exact ⟨⟨_, rfl, HV.out⟩, by assumption⟩

theorem next0_any (A : Option Addr) (c : Nat) (w : World) :
  Calls Tryz.prog 56 #[.slice A 0 c, .int .i64 0] w fun e w' => e = .returned (.tuple #[.slice none 0 0, .int .i64 0, .int .i64 12]) ∧ Below w.heap.size w w' := by
 go_enter Tryz.func56, Tryz.ntmps56
 go_wp2
 go_ret3
 exact ⟨rfl, Below.refl _ _⟩

/-- What Next answers: an error, or the body in a list of its own, and the place behind it. -/
def NextR (xs : Bs) (n p B : Nat) (v : Value) (w : World) : Prop :=
 (nextE xs p ≠ 0 ∧ v = .tuple #[.slice none 0 0, .int .i64 0, .int .i64 (nextE xs p : Nat)]) ∨
 (nextE xs p = 0 ∧ 0 < wordAt xs p ∧ wordAt xs p ≤ 65536 ∧ p + 8 + wordAt xs p ≤ n ∧ ∃ g c, v = .tuple #[.slice (some ⟨g, 0, none⟩) (wordAt xs p) c, .int .i64 (p + 8 + wordAt xs p : Nat), .int .i64 0] ∧
  w.ownsRow B 5 1 (.slice (some ⟨g, 0, none⟩) (wordAt xs p) c) (wordAt xs p) (cellsB (bodyAt xs p)))

theorem bodyAt_length (xs : Bs) (p : Nat) (h : p + 8 + wordAt xs p ≤ xs.length) : (bodyAt xs p).length = wordAt xs p := by
 unfold bodyAt
 rw [List.length_take, List.length_drop]
 omega

theorem Next0_any (A : Option Addr) (c : Nat) (w : World) :
  Calls Tryz.prog 24 #[.slice A 0 c, .int .i64 0] w fun e w' => e = .returned (.tuple #[.slice none 0 0, .int .i64 0, .int .i64 12]) ∧ Below w.heap.size w w' := by
 go_enter Tryz.func24, Tryz.ntmps24
 go_wp2_with (first | (go_at_call 56; refine (next0_any A c _).mono ?_; rintro e w1 ⟨rfl, b1⟩) | (go_at_call 57; refine (clone_any none 0 0 [] _ (Row.nil _ _) rfl (fun _ => rfl) (by decide)).mono ?_; rintro e w2 ⟨A', c', rfl, own2, b2, hz⟩))
 obtain rfl := hz.2 trivial
 obtain rfl : c' = 0 := by
  rcases own2.2 with ⟨h, _⟩ | ⟨g, c1, cur, h, _⟩ <;> simp_all
 go_ret3
 exact ⟨rfl, below_then b1 b2 b1.size⟩

set_option maxHeartbeats 2000000 in
theorem Next_any (xs : Bs) (b off n c p : Nat) (hn : n = xs.length) (hnc : n ≤ c) (hlen : n ≤ 1000000000) (hp : p ≤ n) (w : World) (hA : ∀ j (hj : j < xs.length), w.cell? ⟨b, off + j, none⟩ = some (.int .u8 xs[j].toNat)) :
  Calls Tryz.prog 24 #[.slice (some ⟨b, off, none⟩) n c, .int .i64 p] w fun e w' => (∃ v, e = .returned v ∧ NextR xs n p w.heap.size v w') ∧ Below w.heap.size w w' := by
 have HN := Lib.hid (next_any xs b off n c p hn hnc hlen hp w hA)
 have hcell : 0 < n → ∀ W, Below w.heap.size w W → ∀ j (hj : j < xs.length), W.cell? ⟨b, off + j, none⟩ = some (.int .u8 xs[j].toNat) := fun h0 W hW j hj => by
  rw [← hA j hj]
  exact hW.cell (p := ⟨b, off + j, none⟩) (World.block_lt_of_cell? w _ (hA j hj))
 have HA := Lib.hid hcell
 have HL := Lib.hid hn
 clear hA hcell hn
 go_enter Tryz.func24, Tryz.ntmps24
 go_upto_region 1 with (fail)
 go_upto_region 2 with (go_at_call 56; refine HN.out.mono ?_; rintro e w1 ⟨⟨v, rfl, ⟨he, rfl⟩ | ⟨he, hk0, hk1, hk2, rfl⟩⟩, b1⟩)
 ·obtain ⟨E, hE⟩ : ∃ E, E = nextE xs p := ⟨_, rfl⟩
  have HE := Lib.hid hE
  rw [← hE] at he ⊢
  clear hE
  have HEE := Lib.hid he
  clear he
  go_wp2_with (go_at_call 57; refine (clone_any none 0 0 [] _ (Row.nil _ _) rfl (fun _ => rfl) (by decide)).mono ?_; rintro e w2 ⟨A', c', rfl, own2, b2, hz⟩)
  obtain rfl := hz.2 trivial
  obtain rfl : c' = 0 := by
   rcases own2.2 with ⟨h, _⟩ | ⟨g, c1, cur, h, _⟩ <;> simp_all
  go_ret3
  exact ⟨⟨_, rfl, .inl ⟨by rw [← HE.out]; exact HEE.out, by rw [← HE.out]; rfl⟩⟩, below_then b1 b2 b1.size⟩
 ·have hrow := rowAt (HA.out (by omega) w1 b1) (p + 8) (wordAt xs p) (by have := HL.out; omega)
  rw [← bodyAt] at hrow
  have hbl := bodyAt_length xs p (by rw [← HL.out]; exact hk2)
  obtain ⟨K, hK⟩ : ∃ K, K = wordAt xs p := ⟨_, rfl⟩
  have hR : ∀ v w', NextR xs n p w.heap.size v w' ↔ ((nextE xs p ≠ 0 ∧ v = .tuple #[.slice none 0 0, .int .i64 0, .int .i64 (nextE xs p : Nat)]) ∨
 (nextE xs p = 0 ∧ 0 < K ∧ K ≤ 65536 ∧ p + 8 + K ≤ n ∧ ∃ g c, v = .tuple #[.slice (some ⟨g, 0, none⟩) K c, .int .i64 (p + 8 + K : Nat), .int .i64 0] ∧
  w'.ownsRow w.heap.size 5 1 (.slice (some ⟨g, 0, none⟩) K c) K (cellsB (bodyAt xs p)))) := fun v w' => by rw [hK]; exact Iff.rfl
  rw [← hK] at hk0 hk1 hk2 hbl ⊢
  have HC := Lib.hid (clone_any (some ⟨b, off + (p + 8), none⟩) K (c - (p + 8)) (bodyAt xs p) w1 hrow hbl.symm (fun h => by cases h) (by omega))
  have HR := Lib.hid hR
  have HE := Lib.hid he
  clear hR he hrow hbl hK
  go_wp2_with (go_at_call 57; refine HC.out.mono ?_; rintro e w2 ⟨A', c', rfl, own2, b2, hz⟩)
  have hA' : ∃ g, A' = some ⟨g, 0, none⟩ := by
   rcases own2.2 with ⟨h, h0⟩ | ⟨g, c1, cur, h, _⟩
   ·omega
   ·simp only [Value.slice.injEq] at h
    exact ⟨g, h.1⟩
  obtain ⟨g, rfl⟩ := hA'
  go_ret3
  exact ⟨⟨_, rfl, (HR.out _ _).2 (.inr ⟨HE.out, hk0, hk1, hk2, g, c', rfl, owns_mono own2 b1.size⟩)⟩, below_then b1 b2 b1.size⟩
end Go.Proofs.YtnieminnnkbneaaGreat
