/- Walks of package frame: the head. -/
import Derived.Test.YtnieminnnkbneaaGreatCrc
namespace Go.Proofs.YtnieminnnkbneaaGreat
open Go.RowKit

def u8v (b : UInt8) : Value := .int .u8 b.toNat
/-- Four bytes of a word, the lowest first. -/
def le4 (v : Nat) : Bs := [UInt8.ofNat v, UInt8.ofNat (v / 256), UInt8.ofNat (v / 65536), UInt8.ofNat (v / 16777216)]
def fourW (w : World) (b off v : Nat) : World :=
  (((w.setCell ⟨b, off, none⟩ (u8v (UInt8.ofNat v))).setCell ⟨b, off + 1, none⟩ (u8v (UInt8.ofNat (v / 256)))).setCell ⟨b, off + 2, none⟩ (u8v (UInt8.ofNat (v / 65536)))).setCell ⟨b, off + 3, none⟩ (u8v (UInt8.ofNat (v / 16777216)))

theorem u8low (v : Nat) : Value.int .u8 ((v : Int) % 256) = u8v (UInt8.ofNat v) := by rw [low256 v]; rfl

set_option maxHeartbeats 1000000 in
theorem four_any (b off cap v : Nat) (hv : v < 4294967296) (w : World) (hc : ∀ j, j < 4 → ∃ u, w.cell? ⟨b, off + j, none⟩ = some (.int .u8 u)) (hf : ∀ j, w.frozen? ⟨b, off + j, none⟩ = false) :
    Calls Tryz.prog 136 #[.slice (some ⟨b, off, none⟩) 4 cap, .int .u32 v] w fun e w' => e = .returned (.tuple #[]) ∧ w' = fourW w b off v := by
  obtain ⟨u0, c0⟩ := hc 0 (by decide)
  obtain ⟨u1, c1⟩ := hc 1 (by decide)
  obtain ⟨u2, c2⟩ := hc 2 (by decide)
  obtain ⟨u3, c3⟩ := hc 3 (by decide)
  have f0 := hf 0
  have f1 := hf 1
  have f2 := hf 2
  have f3 := hf 3
  rw [Nat.add_zero] at c0 f0
  clear hc hf
  go_enter Tryz.func136, Tryz.ntmps136
  go_wp2
  refine wp_loop_rounds 5 ?_
  rw [rounds_succ]; go_wp2
  rw [rounds_succ]; go_wp2
  rw [rounds_succ]; go_wp2
  rw [rounds_succ]; go_wp2
  rw [rounds_succ]; go_wp2
  go_end0
  refine ⟨rfl, ?_⟩
  unfold fourW
  rw [← u8low v, ← u8low (v / 256), ← u8low (v / 65536), ← u8low (v / 16777216)]
  have e1 : ((v / 256 : Nat) : Int) % 256 = (v : Int) / 256 % 256 := by omega
  have e2 : ((v / 65536 : Nat) : Int) % 256 = (v : Int) / 65536 % 256 := by omega
  have e3 : ((v / 16777216 : Nat) : Int) % 256 = (v : Int) / 16777216 := by omega
  rw [e1, e2, e3]

def wordOf (b0 b1 b2 b3 : UInt8) : Nat := b0.toNat + 256 * b1.toNat + 65536 * b2.toNat + 16777216 * b3.toNat
theorem wordOf_lt (b0 b1 b2 b3 : UInt8) : wordOf b0 b1 b2 b3 < 4294967296 := by
  have := b0.toNat_lt; have := b1.toNat_lt; have := b2.toNat_lt; have := b3.toNat_lt
  unfold wordOf; omega

theorem or_u32 (a x k : Nat) (ha : a < 2 ^ k) (h : a + x * 2 ^ k < 4294967296) : bits BinOp.or IntKind.u32 (a : Int) ((x * 2 ^ k : Nat) : Int) = ((a + x * 2 ^ k : Nat) : Int) := by
  show IntKind.u32.wrap (((BitVec.ofInt 32 (a : Int) ||| BitVec.ofInt 32 ((x * 2 ^ k : Nat) : Int)).toNat : Nat) : Int) = _
  rw [BitVec.toNat_or, u32of a (by omega), u32of (x * 2 ^ k) (by omega)]
  have e4 : a ||| x * 2 ^ k = a + x * 2 ^ k := by
    rw [Nat.or_comm, ← Nat.shiftLeft_eq, ← Nat.shiftLeft_add_eq_or_of_lt ha, Nat.add_comm]
  rw [e4, u32wrap _ h]
theorem word_bits (b0 b1 b2 b3 : UInt8) : bits BinOp.or IntKind.u32
      (bits BinOp.or IntKind.u32
        (bits BinOp.or IntKind.u32 (bits BinOp.or IntKind.u32 0 ((b0.toNat : Int) % 4294967296))
          ((b1.toNat : Int) % 4294967296 * 256 % 4294967296))
        ((b2.toNat : Int) % 4294967296 * 65536 % 4294967296))
      ((b3.toNat : Int) % 4294967296 * 16777216 % 4294967296) =
    ((wordOf b0 b1 b2 b3 : Nat) : Int) := by
  have h0 := b0.toNat_lt; have h1 := b1.toNat_lt; have h2 := b2.toNat_lt; have h3 := b3.toNat_lt
  have x0 : (b0.toNat : Int) % 4294967296 = ((b0.toNat * 2 ^ 0 : Nat) : Int) := by omega
  have x1 : (b1.toNat : Int) % 4294967296 * 256 % 4294967296 = ((b1.toNat * 2 ^ 8 : Nat) : Int) := by omega
  have x2 : (b2.toNat : Int) % 4294967296 * 65536 % 4294967296 = ((b2.toNat * 2 ^ 16 : Nat) : Int) := by omega
  have x3 : (b3.toNat : Int) % 4294967296 * 16777216 % 4294967296 = ((b3.toNat * 2 ^ 24 : Nat) : Int) := by omega
  rw [x0, x1, x2, x3, show (0 : Int) = ((0 : Nat) : Int) from rfl, or_u32 0 _ 0 (by decide) (by omega), or_u32 _ _ 8 (by omega) (by omega), or_u32 _ _ 16 (by omega) (by omega), or_u32 _ _ 24 (by omega) (by omega)]
  unfold wordOf
  congr 1
  omega

set_option maxHeartbeats 1000000 in
theorem word_any (b off n cap : Nat) (hn : 4 ≤ n) (b0 b1 b2 b3 : UInt8) (w : World) (c0 : w.cell? ⟨b, off, none⟩ = some (u8v b0)) (c1 : w.cell? ⟨b, off + 1, none⟩ = some (u8v b1)) (c2 : w.cell? ⟨b, off + 2, none⟩ = some (u8v b2)) (c3 : w.cell? ⟨b, off + 3, none⟩ = some (u8v b3)) :
    Calls Tryz.prog 101 #[.slice (some ⟨b, off, none⟩) n cap] w fun e w' => e = .returned (.int .u32 (wordOf b0 b1 b2 b3 : Nat)) ∧ Below w.heap.size w w' := by
  unfold u8v at c0 c1 c2 c3
  have i0 : (0 : Int) < (n : Int) := by omega
  have i1 : (1 : Int) < (n : Int) := by omega
  have i2 : (2 : Int) < (n : Int) := by omega
  have i3 : (3 : Int) < (n : Int) := by omega
  go_enter Tryz.func101, Tryz.ntmps101
  go_wp2
  refine wp_loop_rounds 5 ?_
  rw [rounds_succ]; go_wp2
  rw [rounds_succ]; go_wp2
  rw [rounds_succ]; go_wp2
  rw [rounds_succ]; go_wp2
  rw [rounds_succ]; go_wp2
  go_ret
  exact ⟨ret_int (word_bits b0 b1 b2 b3), Below.refl _ _⟩
end Go.Proofs.YtnieminnnkbneaaGreat
