/- Sums of bytes in plain numbers: no program in sight. -/
import Derived.WalkKit
import Derived.Test.YtnieminnnkbneaaGreatPure
namespace Go.Proofs.YtnieminnnkbneaaGreat
open Go.RowKit

def poly : Nat := 0x82f63b78
def stepN (s : Nat) : Nat := (s / 2) ^^^ (if s % 2 = 1 then poly else 0)
theorem xor_div2 (a b : Nat) : (a ^^^ b) / 2 = a / 2 ^^^ b / 2 := by
  apply Nat.eq_of_testBit_eq
  intro i
  rw [Nat.testBit_xor, Nat.testBit_div_two, Nat.testBit_div_two, Nat.testBit_div_two, Nat.testBit_xor]
theorem xor_mod2 (a b : Nat) : ((a ^^^ b) % 2 = 1) ↔ ¬ ((a % 2 = 1) ↔ (b % 2 = 1)) := by
  have h := Nat.testBit_xor a b 0
  simp only [Nat.testBit_zero] at h
  rcases Nat.mod_two_eq_zero_or_one a with ha | ha <;> rcases Nat.mod_two_eq_zero_or_one b with hb | hb <;> rcases Nat.mod_two_eq_zero_or_one (a ^^^ b) with hc | hc <;> simp [ha, hb, hc] at h ⊢
theorem step_lin (a b : Nat) : stepN (a ^^^ b) = stepN a ^^^ stepN b := by
  unfold stepN
  rw [xor_div2]
  have h := xor_mod2 a b
  by_cases ha : a % 2 = 1
  · by_cases hb : b % 2 = 1
    · rw [if_neg (by rw [h]; simp [ha, hb]), if_pos ha, if_pos hb, Nat.xor_zero]
      rw [show a / 2 ^^^ poly ^^^ (b / 2 ^^^ poly) = a / 2 ^^^ b / 2 ^^^ (poly ^^^ poly) by ac_rfl, Nat.xor_self, Nat.xor_zero]
    · rw [if_pos (by rw [h]; simp [ha, hb]), if_pos ha, if_neg hb, Nat.xor_zero]
      ac_rfl
  · by_cases hb : b % 2 = 1
    · rw [if_pos (by rw [h]; simp [ha, hb]), if_neg ha, if_pos hb, Nat.xor_zero]
      ac_rfl
    · rw [if_neg (by rw [h]; simp [ha, hb]), if_neg ha, if_neg hb]
      simp
theorem step_even (a : Nat) : stepN (2 * a) = a := by
  unfold stepN
  rw [if_neg (by omega), Nat.xor_zero]
  omega
def step4 (s : Nat) : Nat := stepN (stepN (stepN (stepN s)))
theorem step4_lin (a b : Nat) : step4 (a ^^^ b) = step4 a ^^^ step4 b := by simp only [step4, step_lin]
theorem step4_hi (a : Nat) : step4 (16 * a) = a := by
  unfold step4
  rw [show 16 * a = 2 * (2 * (2 * (2 * a))) by omega, step_even, step_even, step_even, step_even]
theorem split16 (s : Nat) : s = (s % 16) ^^^ (16 * (s / 16)) := by
  apply Nat.eq_of_testBit_eq
  intro i
  rw [Nat.testBit_xor, show (16 : Nat) = 2 ^ 4 from rfl, Nat.testBit_mod_two_pow, Nat.testBit_two_pow_mul, Nat.testBit_div_two_pow]
  by_cases h : i < 4
  · simp [h, Nat.not_le.2 h]
  · have : 4 ≤ i := by omega
    simp [h, this, Nat.sub_add_cancel this]
theorem step4_eq (s : Nat) : step4 s = step4 (s % 16) ^^^ (s / 16) := by
  conv => lhs; rw [split16 s]
  rw [step4_lin, step4_hi]

theorem stepN_lt (s : Nat) (h : s < 4294967296) : stepN s < 4294967296 := by
  unfold stepN poly
  have e : (4294967296 : Nat) = 2 ^ 32 := by decide
  rw [e] at h ⊢
  refine Nat.xor_lt_two_pow (by omega) ?_
  split <;> decide
theorem step4_lt (s : Nat) (h : s < 4294967296) : step4 s < 4294967296 := stepN_lt _ (stepN_lt _ (stepN_lt _ (stepN_lt _ h)))
/-- What the table's form of four steps makes. -/
def half (s : Nat) : Nat := step4 (s % 16) ^^^ (s / 16)
theorem half_eq (s : Nat) : half s = step4 s := (step4_eq s).symm
theorem half_lt (s : Nat) (h : s < 4294967296) : half s < 4294967296 := by rw [half_eq]; exact step4_lt s h
def crcStep (s : Nat) (b : UInt8) : Nat := half (half (s ^^^ b.toNat))
theorem xor_lt32 (a b : Nat) (ha : a < 4294967296) (hb : b < 4294967296) : a ^^^ b < 4294967296 := by
  have e : (4294967296 : Nat) = 2 ^ 32 := by decide
  rw [e] at ha hb ⊢
  exact Nat.xor_lt_two_pow ha hb
theorem crcStep_lt (s : Nat) (b : UInt8) (h : s < 4294967296) : crcStep s b < 4294967296 :=
  half_lt _ (half_lt _ (xor_lt32 _ _ h (by have := b.toNat_lt; omega)))
def crcGo (s : Nat) (p : Bs) : Nat := p.foldl crcStep s
theorem crcGo_lt (p : Bs) : ∀ s, s < 4294967296 → crcGo s p < 4294967296 := by
  unfold crcGo
  induction p with
  | nil => intro s h; exact h
  | cons b p ih => intro s h; exact ih _ (crcStep_lt s b h)
theorem crcGo_take (s : Nat) (p : Bs) (k : Nat) (h : k < p.length) : crcGo s (p.take (k + 1)) = crcStep (crcGo s (p.take k)) p[k] := by
  unfold crcGo
  rw [List.take_succ_eq_append_getElem h, List.foldl_append]
  rfl
/-- The sum of what sum is the sum of, and p behind it. -/
def crcUpd (sum : Nat) (p : Bs) : Nat := 4294967295 - crcGo (4294967295 - sum) p
theorem crcUpd_lt (sum : Nat) (p : Bs) : crcUpd sum p < 4294967296 := by unfold crcUpd; omega
end Go.Proofs.YtnieminnnkbneaaGreat
