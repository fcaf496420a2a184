/- Small facts on digits of numbers. -/
import Derived.WalkKit
import Derived.Test.YtnieminnnkbneaaGreatPure
namespace Go.Proofs.YtnieminnnkbneaaGreat
open Go.RowKit

theorem or128 (k : Nat) : bits BinOp.or IntKind.u8 ((k : Int) % 256) 128 = ((UInt8.ofNat (k % 128 + 128)).toNat : Int) := by
  have h : ∀ x : Fin 256, bits BinOp.or IntKind.u8 ((x.val : Int)) 128 = ((UInt8.ofNat (x.val % 128 + 128)).toNat : Int) := by decide +kernel
  have h0 := h ⟨k % 256, Nat.mod_lt _ (by decide)⟩
  simp only [Nat.mod_mod_of_dvd k (show 128 ∣ 256 by decide)] at h0
  rw [← h0]
  congr 1

theorem low256 (k : Nat) : (k : Int) % 256 = ((UInt8.ofNat k).toNat : Int) := by
  simp [UInt8.toNat_ofNat']

theorem zig_bits (v : Int) (h0 : -9223372036854775808 ≤ v) (h1 : v ≤ 9223372036854775807) :
    bits BinOp.xor IntKind.u64 (IntKind.u64.wrap (IntKind.u64.wrap v * 2)) (IntKind.u64.wrap (v / 9223372036854775808)) = (zig v : Int) := by
  unfold bits
  by_cases h : 0 ≤ v
  · have e1 : v / 9223372036854775808 = 0 := by omega
    have e2 : IntKind.u64.wrap 0 = 0 := by decide
    rw [e1, e2]
    unfold zig; rw [if_pos h]
    have e3 : (BitVec.ofInt IntKind.u64.bits 0) = 0#_ := by decide
    simp only [e3, BitVec.xor_zero, BitVec.toNat_ofInt]
    simp [IntKind.bits, IntKind.wrap, IntKind.signed]
    omega
  · have e1 : v / 9223372036854775808 = -1 := by omega
    have e2 : IntKind.u64.wrap (-1) = 18446744073709551615 := by decide
    rw [e1, e2]
    unfold zig; rw [if_neg h]
    have e3 : (BitVec.ofInt IntKind.u64.bits 18446744073709551615) = BitVec.allOnes _ := by decide
    simp only [e3, BitVec.xor_allOnes, BitVec.toNat_not, BitVec.toNat_ofInt]
    simp [IntKind.bits, IntKind.wrap, IntKind.signed]
    omega

theorem and127 (b : UInt8) : bits BinOp.and IntKind.u8 (b.toNat : Int) 127 = ((b.toNat % 128 : Nat) : Int) := by
  have h : ∀ x : Fin 256, bits BinOp.and IntKind.u8 ((x.val : Int)) 127 = ((x.val % 128 : Nat) : Int) := by decide +kernel
  exact h ⟨b.toNat, b.toNat_lt⟩
theorem wrapU (x : Nat) (h : x < 18446744073709551616) : IntKind.u64.wrap (x : Int) = (x : Int) := by
  simp [IntKind.bits, IntKind.wrap, IntKind.signed]; omega
theorem row_bits (v k : Nat) (b : UInt8) (hv : v < 128 ^ k) (hk : k ≤ 8 ∨ k = 9 ∧ b.toNat % 128 ≤ 1) :
    bits BinOp.or IntKind.u64 (v : Int) (IntKind.u64.wrap (IntKind.u64.wrap (bits BinOp.and IntKind.u8 (b.toNat : Int) 127) * 2 ^ (7 * k))) = ((v + b.toNat % 128 * 128 ^ k : Nat) : Int) ∧ v + b.toNat % 128 * 128 ^ k < 18446744073709551616 := by
  have hx : b.toNat % 128 < 128 := Nat.mod_lt _ (by decide)
  generalize hxe : b.toNat % 128 = x at *
  have hp : (128 : Nat) ^ k = 2 ^ (7 * k) := by rw [Nat.pow_mul]
  have hb1 : x * 128 ^ k + 128 ^ k ≤ 18446744073709551616 := by
    rcases hk with hk | ⟨rfl, hk⟩
    · have h1 : (x + 1) * 128 ^ k ≤ 128 * 128 ^ k := Nat.mul_le_mul_right _ (by omega)
      have h2 : 128 * 128 ^ k ≤ 128 * 128 ^ 8 := Nat.mul_le_mul_left _ (Nat.pow_le_pow_right (by decide) hk)
      have h3 : (128 : Nat) * 128 ^ 8 ≤ 18446744073709551616 := by decide
      have h4 : x * 128 ^ k + 128 ^ k = (x + 1) * 128 ^ k := by rw [Nat.add_mul, Nat.one_mul]
      omega
    · have h4 : x * 128 ^ 9 + 128 ^ 9 = (x + 1) * 128 ^ 9 := by rw [Nat.add_mul, Nat.one_mul]
      have h1 : (x + 1) * 128 ^ 9 ≤ 2 * 128 ^ 9 := Nat.mul_le_mul_right _ (by omega)
      have h3 : (2 : Nat) * 128 ^ 9 ≤ 18446744073709551616 := by decide
      omega
  have hsum : v + x * 128 ^ k < 18446744073709551616 := by omega
  refine ⟨?_, hsum⟩
  rw [and127, hxe, wrapU _ (by omega)]
  have e1 : ((x : Int) * 2 ^ (7 * k)) = ((x * 2 ^ (7 * k) : Nat) : Int) := by simp
  rw [e1, ← hp, wrapU _ (by omega)]
  show IntKind.u64.wrap (((BitVec.ofInt 64 (v : Int) ||| BitVec.ofInt 64 ((x * 128 ^ k : Nat) : Int)).toNat : Nat) : Int) = _
  have e2 : (BitVec.ofInt 64 (v : Int)).toNat = v := by rw [BitVec.toNat_ofInt]; omega
  have e3 : (BitVec.ofInt 64 ((x * 128 ^ k : Nat) : Int)).toNat = x * 128 ^ k := by rw [BitVec.toNat_ofInt]; omega
  rw [BitVec.toNat_or, e2, e3]
  have e4 : v ||| x * 128 ^ k = v + x * 128 ^ k := by
    rw [hp, Nat.or_comm, ← Nat.shiftLeft_eq, ← Nat.shiftLeft_add_eq_or_of_lt (by rw [← hp]; exact hv), Nat.add_comm]
  rw [e4, wrapU _ hsum]

theorem zig_lt (v : Int) (h0 : -9223372036854775808 ≤ v) (h1 : v ≤ 9223372036854775807) : zig v < 18446744073709551616 := by
  unfold zig; split <;> omega


theorem rowGo_lt (xs : Bs) (pos most last B : Nat) (hB : 0 < B) (hc : ∀ k v (b : UInt8), k < most → v < 128 ^ k → ¬ (k + 1 = most ∧ last < b.toNat) → v + b.toNat % 128 * 128 ^ k < B) :
    ∀ f k v, k + f = most → v < 128 ^ k → (Rdr.rowGo xs pos most last f k v).2.1 < B
  | 0, k, v, _, _ => by simp [Rdr.rowGo]; exact hB
  | f + 1, k, v, hk, hv => by
    unfold Rdr.rowGo
    cases hx : xs[pos + k]? with
    | none => exact hB
    | some b =>
      simp only
      split
      · exact hB
      · rename_i hn
        split
        · split
          · exact hB
          · exact hc k v b (by omega) hv hn
        · refine rowGo_lt xs pos most last B hB hc f (k + 1) _ (by omega) ?_
          have h2 : b.toNat % 128 < 128 := Nat.mod_lt _ (by decide)
          have h3 : (b.toNat % 128 + 1) * 128 ^ k ≤ 128 * 128 ^ k := Nat.mul_le_mul_right _ (by omega)
          rw [Nat.pow_succ, Nat.mul_comm (128 ^ k)]
          rw [Nat.add_mul, Nat.one_mul] at h3
          omega

theorem row9_lt (r : Rdr) : (r.row 9 127).1 < 9223372036854775808 := by
  unfold Rdr.row
  split
  · simp
  · have h := rowGo_lt r.xs r.pos 9 127 9223372036854775808 (by decide) (fun k v b hk hv _ => by
      have h2 : b.toNat % 128 < 128 := Nat.mod_lt _ (by decide)
      have h3 : (b.toNat % 128 + 1) * 128 ^ k ≤ 128 * 128 ^ k := Nat.mul_le_mul_right _ (by omega)
      have h4 : 128 * 128 ^ k ≤ 128 * 128 ^ 8 := Nat.mul_le_mul_left _ (Nat.pow_le_pow_right (by decide) (by omega))
      have h5 : (128 : Nat) * 128 ^ 8 = 9223372036854775808 := by decide
      rw [Nat.add_mul, Nat.one_mul] at h3
      omega) 9 0 0 (by omega) (by decide)
    split
    rename_i e u n heq
    rw [heq] at h
    split
    · exact h
    · simp

theorem row10_lt (r : Rdr) : (r.row 10 1).1 < 18446744073709551616 := by
  unfold Rdr.row
  split
  · simp
  · have h := rowGo_lt r.xs r.pos 10 1 18446744073709551616 (by decide) (fun k v b hk hv hn => (row_bits v k b hv (by omega)).2) 10 0 0 (by omega) (by decide)
    split
    rename_i e u n heq
    rw [heq] at h
    split
    · exact h
    · simp

/-- zigzag back: int64(u>>1) ^ -int64(u&1) -/
theorem zag_bits (u : Nat) (hu : u < 18446744073709551616) :
    bits BinOp.xor IntKind.i64 ((u : Int) / 2) (wrap64 (-wrap64 (bits BinOp.and IntKind.u64 (u : Int) 1))) = zag u := by
  have e0 : bits BinOp.and IntKind.u64 (u : Int) 1 = ((u % 2 : Nat) : Int) := by
    show IntKind.u64.wrap (((BitVec.ofInt 64 (u : Int) &&& BitVec.ofInt 64 1).toNat : Nat) : Int) = _
    have e2 : (BitVec.ofInt 64 (u : Int)).toNat = u := by rw [BitVec.toNat_ofInt]; omega
    have e3 : (BitVec.ofInt 64 (1 : Int)).toNat = 1 := by decide
    rw [BitVec.toNat_and, e2, e3, Nat.and_one_is_mod]
    simp [IntKind.bits, IntKind.wrap, IntKind.signed]; omega
  rw [e0]
  unfold zag
  by_cases h : u % 2 = 0
  · rw [if_pos h, h]
    have e1 : wrap64 (-wrap64 ((0 : Nat) : Int)) = 0 := by unfold wrap64; decide
    rw [e1]
    have e3 : (BitVec.ofInt IntKind.i64.bits 0) = 0#_ := by decide
    unfold bits
    simp only [e3, BitVec.xor_zero, BitVec.toNat_ofInt]
    simp [IntKind.bits, IntKind.wrap, IntKind.signed]
    omega
  · have h1 : u % 2 = 1 := by omega
    rw [if_neg h, h1]
    have e1 : wrap64 (-wrap64 ((1 : Nat) : Int)) = -1 := by unfold wrap64; decide
    rw [e1]
    have e3 : (BitVec.ofInt IntKind.i64.bits (-1)) = BitVec.allOnes _ := by decide
    unfold bits
    simp only [e3, BitVec.xor_allOnes, BitVec.toNat_not, BitVec.toNat_ofInt]
    simp [IntKind.bits, IntKind.wrap, IntKind.signed]
    omega

end Go.Proofs.YtnieminnnkbneaaGreat
