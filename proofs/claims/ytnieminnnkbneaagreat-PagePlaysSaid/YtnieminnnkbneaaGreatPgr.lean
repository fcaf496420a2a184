/- Round trips of chapter 14: frames and what stands in them. No program in sight. -/
import Derived.Test.YtnieminnnkbneaaGreatPg
import Derived.Test.YtnieminnnkbneaaGreatRound2
namespace Go.Proofs.YtnieminnnkbneaaGreat
open Go.RowKit

theorem wordOf_le4 (v : Nat) (h : v < 4294967296) : wordOf (UInt8.ofNat v) (UInt8.ofNat (v / 256)) (UInt8.ofNat (v / 65536)) (UInt8.ofNat (v / 16777216)) = v := by
 unfold wordOf
 simp only [UInt8.toNat_ofNat']
 omega
theorem getD_of {xs : Bs} {p i : Nat} {b : UInt8} (h : (xs.drop p)[i]? = some b) : xs.getD (p + i) 0 = b := by
 rw [List.getElem?_drop] at h
 rw [List.getD_eq_getElem?_getD, h]
 rfl
theorem wordAt_of {xs : Bs} {p : Nat} {a b c d : UInt8} {rest : Bs} (h : xs.drop p = a :: b :: c :: d :: rest) : wordAt xs p = wordOf a b c d := by
 unfold wordAt
 rw [show xs.getD p 0 = a from getD_of (i := 0) (by rw [h]; rfl), getD_of (i := 1) (b := b) (by rw [h]; rfl), getD_of (i := 2) (b := c) (by rw [h]; rfl), getD_of (i := 3) (b := d) (by rw [h]; rfl)]

theorem next_fwd {xs b rest : Bs} {p : Nat} (h : xs.drop p = headB b ++ (b ++ rest)) (h1 : 1 ≤ b.length) (h2 : b.length ≤ 65536) :
  nextE xs p = 0 ∧ wordAt xs p = b.length ∧ bodyAt xs p = b ∧ xs.drop (p + 8 + b.length) = rest ∧ p + 8 + b.length ≤ xs.length := by
 have hl : xs.length - p = 8 + (b.length + rest.length) := by
  have := congrArg List.length h
  rw [List.length_drop, List.length_append, List.length_append, headB_length] at this
  exact this
 have hw : wordAt xs p = b.length := by
  rw [wordAt_of (h.trans (by rfl : headB b ++ (b ++ rest) = UInt8.ofNat b.length :: UInt8.ofNat (b.length / 256) :: UInt8.ofNat (b.length / 65536) :: UInt8.ofNat (b.length / 16777216) :: (le4 (crcUpd (crcUpd 0 (le4 b.length)) b) ++ (b ++ rest)))), wordOf_le4 _ (by omega)]
 have h4 : xs.drop (p + 4) = le4 (crcUpd (crcUpd 0 (le4 b.length)) b) ++ (b ++ rest) := by
  rw [← List.drop_drop, h]
  rfl
 have h8 : xs.drop (p + 8) = b ++ rest := by
  rw [← List.drop_drop, h]
  rfl
 have hw4 : wordAt xs (p + 4) = crcUpd (crcUpd 0 (le4 b.length)) b := by
  generalize hs : crcUpd (crcUpd 0 (le4 b.length)) b = s at *
  have hsl : s < 4294967296 := by rw [← hs]; exact crcUpd_lt _ _
  rw [wordAt_of (h4.trans (by rfl : le4 s ++ (b ++ rest) = UInt8.ofNat s :: UInt8.ofNat (s / 256) :: UInt8.ofNat (s / 65536) :: UInt8.ofNat (s / 16777216) :: (b ++ rest))), wordOf_le4 _ hsl]
 have hb : bodyAt xs p = b := by
  unfold bodyAt
  rw [h8, hw, List.take_left]
 have ht4 : (xs.drop p).take 4 = le4 b.length := by
  rw [h]
  rfl
 refine ⟨?_, hw, hb, ?_, by omega⟩
 ·unfold nextE
  rw [if_neg (by omega), if_neg (by omega), hw, if_neg (by omega), hw4, hb, ht4, if_pos rfl]
 ·rw [← List.drop_drop, h8, List.drop_left]

end Go.Proofs.YtnieminnnkbneaaGreat
