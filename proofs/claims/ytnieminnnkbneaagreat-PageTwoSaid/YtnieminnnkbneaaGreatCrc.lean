/- Walks of package crc: the table, the steps of a byte, sums of rows. -/
import Derived.Test.YtnieminnnkbneaaGreatGen
import Derived.Test.YtnieminnnkbneaaGreatCrcp
namespace Go.Proofs.YtnieminnnkbneaaGreat
open Go.RowKit

theorem u32wrap (x : Nat) (h : x < 4294967296) : IntKind.u32.wrap (x : Int) = (x : Int) := by
  simp [IntKind.bits, IntKind.wrap, IntKind.signed]; omega
theorem u32of (x : Nat) (h : x < 4294967296) : (BitVec.ofInt 32 (x : Int)).toNat = x := by rw [BitVec.toNat_ofInt]; omega
theorem xor_u32 (a b : Nat) (ha : a < 4294967296) (hb : b < 4294967296) : bits BinOp.xor IntKind.u32 (a : Int) (b : Int) = ((a ^^^ b : Nat) : Int) := by
  show IntKind.u32.wrap (((BitVec.ofInt 32 (a : Int) ^^^ BitVec.ofInt 32 (b : Int)).toNat : Nat) : Int) = _
  rw [BitVec.toNat_xor, u32of a ha, u32of b hb, u32wrap _ (xor_lt32 a b ha hb)]
theorem and1_u32 (a : Nat) (ha : a < 4294967296) : bits BinOp.and IntKind.u32 (a : Int) 1 = ((a % 2 : Nat) : Int) := by
  show IntKind.u32.wrap (((BitVec.ofInt 32 (a : Int) &&& BitVec.ofInt 32 ((1 : Nat) : Int)).toNat : Nat) : Int) = _
  rw [BitVec.toNat_and, u32of a ha, u32of 1 (by decide), Nat.and_one_is_mod, u32wrap _ (by omega)]
theorem and15_u32 (a : Nat) (ha : a < 4294967296) : bits BinOp.and IntKind.u32 (a : Int) 15 = ((a % 16 : Nat) : Int) := by
  show IntKind.u32.wrap (((BitVec.ofInt 32 (a : Int) &&& BitVec.ofInt 32 ((15 : Nat) : Int)).toNat : Nat) : Int) = _
  rw [BitVec.toNat_and, u32of a ha, u32of 15 (by decide), show (15 : Nat) = 2 ^ 4 - 1 by decide, Nat.and_two_pow_sub_one_eq_mod, u32wrap _ (by omega)]

/-- The table as it lies. -/
def crcTab (k : Nat) : Array Value := ((List.range 16).map fun j => Value.int .u32 (if j < k then (step4 j : Int) else 0)).toArray

theorem infTab : (Tryz.prog.info? 208).map (·.size) = some 16 := by kernel_rfl
theorem crcTab_size (k : Nat) : (crcTab k).size = 16 := by simp [crcTab]
theorem crcTab_at (k j : Nat) (h : j < 16) : (crcTab k)[j]? = some (.int .u32 (if j < k then (step4 j : Int) else 0)) := by
  simp [crcTab, h]
theorem crcTab_one (k : Nat) : ∀ i (h : i < (crcTab k).size), (crcTab k)[i].oneCell' = true := by
  intro i h
  have h1 : i < 16 := by rw [crcTab_size] at h; exact h
  have h2 := crcTab_at k i h1
  rw [Array.getElem?_eq_getElem h] at h2
  rw [Option.some.inj h2]
  rfl
theorem crcTab_set (k : Nat) (h : k < 16) : (crcTab k).setIfInBounds k (.int .u32 (step4 k)) = crcTab (k + 1) := by
  apply Array.ext_getElem?
  intro j
  by_cases hj : j < 16
  · rw [crcTab_at _ j hj]
    by_cases hjk : j = k
    · subst hjk
      simp [crcTab_size, hj]
    · rw [Array.getElem?_setIfInBounds_ne (by omega), crcTab_at _ j hj]
      by_cases h1 : j < k
      · rw [if_pos h1, if_pos (by omega)]
      · rw [if_neg h1, if_neg (by omega)]
  · rw [Array.getElem?_eq_none (by simp [crcTab_size]; omega), Array.getElem?_eq_none (by rw [crcTab_size]; omega)]

def stepI : Nat → Nat → Nat
  | 0, s => s
  | j + 1, s => stepN (stepI j s)
theorem stepI_lt (j s : Nat) (h : s < 4294967296) : stepI j s < 4294967296 := by
  induction j with
  | zero => exact h
  | succ j ih => exact stepN_lt _ ih
theorem stepN_odd (s : Nat) (h : s % 2 = 1) : stepN s = s / 2 ^^^ 2197175160 := by unfold stepN; rw [if_pos h]; rfl
theorem stepN_even (s : Nat) (h : s % 2 = 0) : stepN s = s / 2 := by unfold stepN; rw [if_neg (by omega), Nat.xor_zero]
theorem xorp_u32 (s : Nat) (h : s < 4294967296) : bits BinOp.xor IntKind.u32 ((s : Int) / 2) 2197175160 = ((s / 2 ^^^ 2197175160 : Nat) : Int) :=
  xor_u32 (s / 2) 2197175160 (by omega) (by decide)

theorem Loc.tab {w : World} : Loc (w.alloc (.cells #[.int .u32 0, .int .u32 0, .int .u32 0, .int .u32 0, .int .u32 0, .int .u32 0, .int .u32 0, .int .u32 0, .int .u32 0, .int .u32 0, .int .u32 0, .int .u32 0, .int .u32 0, .int .u32 0, .int .u32 0, .int .u32 0] 208)) w.heap.size (crcTab 0) 208 := Loc.new w _ _

set_option maxHeartbeats 2000000 in
theorem halves_any (w : World) :
    Calls Tryz.prog 122 #[] w fun e w' => e = .returned (.agg (crcTab 16)) ∧ Below w.heap.size w w' := by
  go_enter Tryz.func122, Tryz.ntmps122
  go_wp2
  have L0 := Loc.alloc (Loc.tab (w := w)) (.cells #[.int .u32 0, .int .u32 0, .int .u32 0, .int .u32 0, .int .u32 0, .int .u32 0, .int .u32 0, .int .u32 0, .int .u32 0, .int .u32 0, .int .u32 0, .int .u32 0, .int .u32 0, .int .u32 0, .int .u32 0, .int .u32 0] 208)
  have b0 := Below.alloc' (by simp) (.cells #[.int .u32 0, .int .u32 0, .int .u32 0, .int .u32 0, .int .u32 0, .int .u32 0, .int .u32 0, .int .u32 0, .int .u32 0, .int .u32 0, .int .u32 0, .int .u32 0, .int .u32 0, .int .u32 0, .int .u32 0, .int .u32 0] 208) ((Below.refl w.heap.size w).alloc (Nat.le_refl _) (.cells #[.int .u32 0, .int .u32 0, .int .u32 0, .int .u32 0, .int .u32 0, .int .u32 0, .int .u32 0, .int .u32 0, .int .u32 0, .int .u32 0, .int .u32 0, .int .u32 0, .int .u32 0, .int .u32 0, .int .u32 0, .int .u32 0] 208))
  have L1 : Loc ((w.alloc (.cells #[.int .u32 0, .int .u32 0, .int .u32 0, .int .u32 0, .int .u32 0, .int .u32 0, .int .u32 0, .int .u32 0, .int .u32 0, .int .u32 0, .int .u32 0, .int .u32 0, .int .u32 0, .int .u32 0, .int .u32 0, .int .u32 0] 208)).alloc (.cells #[.int .u32 0, .int .u32 0, .int .u32 0, .int .u32 0, .int .u32 0, .int .u32 0, .int .u32 0, .int .u32 0, .int .u32 0, .int .u32 0, .int .u32 0, .int .u32 0, .int .u32 0, .int .u32 0, .int .u32 0, .int .u32 0] 208)) (w.heap.size + 1) (crcTab 0) 208 := by
    have h := Loc.tab (w := w.alloc (.cells #[.int .u32 0, .int .u32 0, .int .u32 0, .int .u32 0, .int .u32 0, .int .u32 0, .int .u32 0, .int .u32 0, .int .u32 0, .int .u32 0, .int .u32 0, .int .u32 0, .int .u32 0, .int .u32 0, .int .u32 0, .int .u32 0] 208))
    rw [World.size_alloc] at h
    exact h
  go_loopw [4] (fun i wr => ∃ k : Nat, k ≤ 16 ∧ i = .int .i64 k ∧ Loc wr w.heap.size (crcTab 0) 208 ∧ Loc wr (w.heap.size + 1) (crcTab k) 208 ∧ Below w.heap.size w wr) (fun i _ => 16 - (intOf i).toNat)
  case atStart => exact ⟨0, by omega, rfl, L0, L1, b0⟩
  case round =>
    obtain ⟨wi, rfl⟩ : ∃ wi, wi = wr := ⟨_, rfl⟩
    obtain ⟨k, hk, rfl, Ki, Li, bi⟩ := hrel
    clear L0 b0 L1
    by_cases hk16 : k < 16
    · have hk1 : (k : Int) < 16 := by omega
      have hk2 : (0 : Int) ≤ (k : Int) := by omega
      have hwk : IntKind.u32.wrap (k : Int) = (k : Int) := u32wrap k (by omega)
      have hfr := Li.free k
      have hce := Li.cell k
      rw [crcTab_at k k hk16, if_neg (Nat.lt_irrefl k)] at hce
      go_wp2
      go_loopw [3, 9] (fun s j wr => ∃ m : Nat, m ≤ 4 ∧ j = .int .i64 m ∧ s = .int .u32 (stepI m k : Nat) ∧ wr = wi) (fun _ j _ => 4 - (intOf j).toNat)
      case atStart => exact ⟨0, by omega, rfl, rfl, rfl⟩
      case round =>
        obtain ⟨wj, hwj⟩ : ∃ wj, wj = wr := ⟨_, rfl⟩
        obtain ⟨m, hm, rfl, rfl, rfl⟩ := hrel
        obtain ⟨S, hS⟩ : ∃ S, S = stepI m k := ⟨_, rfl⟩
        have hSl : S < 4294967296 := by rw [hS]; exact stepI_lt m k (by omega)
        have HS := Lib.hid hS
        rw [← hS]
        clear hS
        by_cases hm4 : m < 4
        · have hm1 : (m : Int) < 4 := by omega
          have ea := and1_u32 S hSl
          by_cases ho : S % 2 = 1
          · rw [ho] at ea
            have ex := xorp_u32 S hSl
            have es := stepN_odd S ho
            obtain ⟨X, hX⟩ : ∃ X, X = (S / 2 ^^^ 2197175160) := ⟨_, rfl⟩
            rw [← hX] at ex es
            have HES := Lib.hid es
            clear hX es
            go_wp2
            go_roundw
            case rel => exact ⟨m + 1, by omega, by go_num, by rw [stepI, ← HS.out, HES.out], trivial⟩
            case measure => simp [intOf]; omega
          · have he : S % 2 = 0 := by omega
            rw [he] at ea
            have HES := Lib.hid (stepN_even S he)
            go_wp2
            go_roundw
            case rel => exact ⟨m + 1, by omega, by go_num, by rw [stepI, ← HS.out, HES.out]; rfl, trivial⟩
            case measure => simp [intOf]; omega
        · have hm1 : ¬ (m : Int) < 4 := by omega
          have HST : Hid (S = step4 k) := Lib.hid (by rw [HS.out, show m = 4 by omega]; rfl)
          go_wp2
          go_roundw
          case rel =>
            refine ⟨k + 1, by omega, by go_num, Ki.other (by simp) _, ?_, bi.setCell (by simp) _⟩
            have h := Li.set k (.int .u32 (step4 k : Nat))
            rw [crcTab_set k hk16] at h
            rw [HST.out]
            exact h
          case measure => simp [intOf]; omega
    · have hk1 : ¬ (k : Int) < 16 := by omega
      have HK : Hid (k = 16) := Lib.hid (by omega)
      rw [HK.out] at Li
      clear hk hk16
      go_upto_region 14 with (fail)
      refine wp_absA (fun A => A.tmps.getD 1 undef = .pointer (some ⟨w.heap.size + 1, 0, none⟩) ∧ A.tmps.getD 0 undef = .pointer (some ⟨w.heap.size, 0, none⟩) ∧ A.tmps.size = 25 ∧ A.defers = []) ⟨rfl, rfl, rfl, rfl⟩ ?_
      rintro act ⟨e1, e0, esz, edf⟩
      refine wp_region_lit ?_
      refine wpList_load_row rfl 208 (.tmp 1) rfl _ (by rw [eval_tmp]; exact e1) 208 _ (0, 0) _ Li Tryz.underlying208 rfl (by rw [crcTab_size]; exact infTab) ?_
      refine wpList_store_row rfl 208 (.tmp 0) (.tmp 24) rfl w.heap.size (crcTab 16) (by rw [eval_tmp, getD_put_other _ _ _ _ (by decide)]; exact e0) (by rw [eval_tmp, getD_put_same _ _ _ (by omega)]) 208 _ Ki (by rw [crcTab_size]; exact infTab) (by rw [crcTab_size, crcTab_size]) (all_of_one (crcTab_one 16)) ?_
      refine wpList_nil ?_
      rename_i hK
      refine hK _ _ (wp_ret ?_)
      have hrow := setRow_heap wi w.heap.size (crcTab 0) (crcTab 16) 208 _ Ki
      refine bodyPost_ret (v := .agg (crcTab 16)) (results_cell_row rfl _ _ w.heap.size 208 (crcTab 16) (0, 0) _ ?_ hrow Tryz.underlying208 rfl (by rw [crcTab_size]; exact infTab)) edf ⟨rfl, ?_⟩
      · show ((act.put (some 24) (.agg (crcTab 16))).put none _).tmps.getD 0 undef = _
        exact (getD_put_other _ _ _ _ (by decide)).trans e0
      · exact ⟨bi.os, bi.tape, bi.output, by rw [size_setRow]; exact bi.size, fun k hk => by rw [setRow_other wi _ k _ (by omega)]; exact bi.block k hk⟩

theorem half_bits (s : Nat) (hs : s < 4294967296) : bits BinOp.xor IntKind.u32 (step4 (s % 16) : Nat) ((s : Int) / 16) = (half s : Nat) :=
  xor_u32 (step4 (s % 16)) (s / 16) (step4_lt _ (by omega)) (by omega)
theorem Loc.crc {w : World} {b : Nat} (h : Loc w b (crcTab 16) 208) (s : Nat) : w.cell? ⟨b, s % 16, none⟩ = some (.int .u32 (step4 (s % 16) : Nat)) := by
  rw [h.cell, crcTab_at 16 _ (by omega), if_pos (by omega)]

set_option maxHeartbeats 1000000 in
theorem steps_any (b s : Nat) (hs : s < 4294967296) (w : World) (h : Loc w b (crcTab 16) 208) :
    Calls Tryz.prog 123 #[.pointer (some ⟨b, 0, none⟩), .int .u32 s] w fun e w' => e = .returned (.int .u32 (half (half s) : Nat)) ∧ w' = w := by
  have ea := and15_u32 s hs
  have hc1 := h.crc s
  have hx1 := half_bits s hs
  have hl := half_lt s hs
  have ea2 := and15_u32 (half s) hl
  have hc2 := h.crc (half s)
  have hx2 := half_bits (half s) hl
  have i1 : ((s % 16 : Nat) : Int) < 16 := by omega
  have i2 : ((half s % 16 : Nat) : Int) < 16 := by omega
  have i3 : (0 : Int) ≤ ((s % 16 : Nat) : Int) := by omega
  have i4 : (0 : Int) ≤ ((half s % 16 : Nat) : Int) := by omega
  clear h hl hs
  generalize half s = S at *
  generalize half S = S2 at *
  generalize S % 16 = T at *
  generalize s % 16 = t at *
  go_enter Tryz.func123, Tryz.ntmps123
  go_wp2
  go_ret
  exact ⟨rfl, rfl⟩

theorem not_u32 (s : Nat) (hs : s < 4294967296) : bits BinOp.xor IntKind.u32 IntKind.u32.max (s : Int) = ((4294967295 - s : Nat) : Int) := by
  show IntKind.u32.wrap (((BitVec.ofInt 32 (4294967295 : Int) ^^^ BitVec.ofInt 32 (s : Int)).toNat : Nat) : Int) = _
  have e3 : (BitVec.ofInt 32 4294967295) = BitVec.allOnes _ := by decide
  rw [e3, BitVec.allOnes_xor, BitVec.toNat_not, u32of s hs, u32wrap _ (by omega)]
theorem u32byte (b : UInt8) : IntKind.u32.wrap (b.toNat : Int) = (b.toNat : Int) := u32wrap _ (by have := b.toNat_lt; omega)

set_option maxHeartbeats 1000000 in
theorem update_any (s : Nat) (hs : s < 4294967296) (xs : Bs) (A : Option Addr) (n c : Nat) (hn : n = xs.length) (hln : n ≤ 140737488355328) (w : World) (hr : Row w A (cellsB xs)) :
    Calls Tryz.prog 102 #[.int .u32 s, .slice A n c] w fun e w' => e = .returned (.int .u32 (crcUpd s xs : Nat)) ∧ Below w.heap.size w w' := by
  have HR := Lib.hid hr
  have HN := Lib.hid hn
  clear hr hn
  obtain ⟨res, hres⟩ : ∃ res, res = crcUpd s xs := ⟨_, rfl⟩
  rw [← hres]
  have HRES := Lib.hid hres
  clear hres
  go_enter Tryz.func102, Tryz.ntmps102
  go_wp2_with (go_at_call 122; refine (halves_any _).mono ?_; rintro e w1 ⟨rfl, b1⟩; have hst := fun (c0 : Array Value) (h0 : c0.size = 16) W => store_new 208 (crcTab 16) (by rw [crcTab_size]; exact infTab) (crcTab_one 16) c0 (by rw [h0, crcTab_size]) W)
  rename_i hsz _ _
  clear hst hsz
  have hlt := b1.size
  have LT := Loc.new w1 (crcTab 16) 208
  obtain ⟨W1, hW1⟩ : ∃ W1, W1 = w1.alloc (.cells (crcTab 16) 208) := ⟨_, rfl⟩
  rw [← hW1] at LT ⊢
  have B1 : Below w.heap.size w W1 := by rw [hW1]; exact Below.alloc' b1.size _ b1
  clear hW1 b1
  go_loopw [6, 14] (fun s6 i wr => ∃ k : Nat, k ≤ n ∧ i = .int .i64 k ∧ s6 = .int .u32 (crcGo (4294967295 - s) (xs.take k) : Nat) ∧ wr = W1) (fun _ i _ => n - (intOf i).toNat)
  case atStart => exact ⟨0, by omega, rfl, by rw [not_u32 s hs]; rfl, rfl⟩
  case round =>
    obtain ⟨wi, hwi⟩ : ∃ wi, wi = wr := ⟨_, rfl⟩
    obtain ⟨k, hk, rfl, rfl, rfl⟩ := hrel
    obtain ⟨S, hS⟩ : ∃ S, S = crcGo (4294967295 - s) (xs.take k) := ⟨_, rfl⟩
    have hSl : S < 4294967296 := by rw [hS]; exact crcGo_lt _ _ (by omega)
    have HS := Lib.hid hS
    rw [← hS]
    clear hS
    by_cases hkn : k < n
    · have hkx : k < xs.length := by rw [← HN.out]; exact hkn
      obtain ⟨b, off, rfl, hc⟩ := (HR.out.of_below B1 (Nat.le_refl _)).cellB (by omega)
      have x0 := hc k hkx
      have htk := crcGo_take (4294967295 - s) xs k hkx
      rw [← HS.out] at htk
      generalize xs[k] = bx at *
      have hkn' : (k : Int) < (n : Int) := by omega
      have hub := u32byte bx
      have hxr := xor_u32 S bx.toNat hSl (by have := bx.toNat_lt; omega)
      have hxl := xor_lt32 S bx.toNat hSl (by have := bx.toNat_lt; omega)
      have hcall := steps_any w1.heap.size _ hxl wr LT
      obtain ⟨Z, hZ⟩ : ∃ Z, Z = half (half (S ^^^ bx.toNat)) := ⟨_, rfl⟩
      rw [← hZ] at hcall
      rw [show crcStep S bx = Z by rw [hZ]; rfl] at htk
      have HT := Lib.hid htk
      generalize S ^^^ bx.toNat = Y at *
      have HC := Lib.hid hcall
      clear hc htk hcall hZ hxl
      go_wp2_with (go_at_call 123; refine HC.out.mono ?_; rintro e w2 ⟨rfl, rfl⟩)
      go_roundw
      case rel => exact ⟨k + 1, by omega, by go_num, by rw [HT.out], trivial⟩
      case measure => simp [intOf]; omega
    · have hkn' : ¬ (k : Int) < (n : Int) := by omega
      have hnot := not_u32 S hSl
      have hres : crcUpd s xs = 4294967295 - S := by
        rw [HS.out, List.take_of_length_le (by rw [← HN.out]; omega)]
        rfl
      rw [← HRES.out] at hres
      rw [← hres] at hnot
      clear hres
      go_wp2
      go_ret
      exact ⟨ret_int rfl, B1⟩

theorem of_any (xs : Bs) (A : Option Addr) (n c : Nat) (hn : n = xs.length) (hln : n ≤ 140737488355328) (w : World) (hr : Row w A (cellsB xs)) :
    Calls Tryz.prog 103 #[.slice A n c] w fun e w' => e = .returned (.int .u32 (crcUpd 0 xs : Nat)) ∧ Below w.heap.size w w' := by
  have hU := update_any 0 (by decide) xs A n c hn hln w hr
  rw [show ((0 : Nat) : Int) = 0 from rfl] at hU
  obtain ⟨res, hres⟩ : ∃ res, res = crcUpd 0 xs := ⟨_, rfl⟩
  rw [← hres] at hU ⊢
  clear hres hr hn
  go_enter Tryz.func103, Tryz.ntmps103
  go_wp2_with (go_at_call 102; refine hU.mono ?_; rintro e w1 ⟨rfl, b1⟩)
  go_ret
  exact ⟨rfl, b1⟩
end Go.Proofs.YtnieminnnkbneaaGreat
