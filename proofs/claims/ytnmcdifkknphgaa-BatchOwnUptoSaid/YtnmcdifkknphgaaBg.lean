/- Walk of treadlelaw12.long. -/
import Derived.Test.YtnmcdifkknphgaaBs
namespace Go.Proofs.Ytnmcdifkknphgaa
open Go.RowKit

/-- What long answers. -/
def LongP (l : List TxnC) (e : Ending) : Prop := ∃ b, e = .returned (.bool b) ∧ (b = false → l.length ≤ 300 ∧ ∀ x ∈ l, x.t.args.length ≤ 300 ∧ x.t.proc.code.length ≤ 300)

theorem LongP.yes {l : List TxnC} : LongP l (.returned (.bool true)) := ⟨true, rfl, fun h => by cases h⟩
theorem LongP.mk {l : List TxnC} {b : Bool} (h : l.length ≤ 300 ∧ ∀ x ∈ l, x.t.args.length ≤ 300 ∧ x.t.proc.code.length ≤ 300) : LongP l (.returned (.bool b)) := ⟨b, rfl, fun _ => h⟩

set_option maxRecDepth 100000 in
set_option maxHeartbeats 4000000 in
theorem long_any (f : Int) (l : List TxnC) (A : Option Addr) (cap : Nat) (w : World) (hr : Row w A (txnsCells l)) :
    Calls Try.prog 9 #[.agg #[.int .i64 f, .slice A l.length cap]] w fun e w' => LongP l e ∧ Below w.heap.size w w' := by
  obtain ⟨N, hN⟩ : ∃ N, N = l.length := ⟨_, rfl⟩
  have HN := Lib.hid hN
  have HR := Lib.hid hr
  rw [← hN]
  clear hN hr
  have b0 : Below w.heap.size w (w.alloc (.cells #[.int .i64 f, .slice A N cap] 24)) := (Below.refl w.heap.size w).alloc (Nat.le_refl _) _
  have L0 := Loc.new w #[.int .i64 f, .slice A N cap] 24
  by_cases hbig : 300 < N
  · have hbig' : (300 : Int) < (N : Int) := by omega
    go_enter Try.func9, Try.ntmps9
    go_wp2
    go_ret
    exact ⟨LongP.yes, b0⟩
  have hbig' : ¬ (300 : Int) < (N : Int) := by omega
  go_enter Try.func9, Try.ntmps9
  go_wp2
  go_loopw [3, 4] (fun s i wr => ∃ (k : Nat) (m : Nat), k ≤ N ∧ m ≤ k * 600 ∧ s = .int .i64 (m : Nat) ∧ i = .int .i64 (k : Nat) ∧ Below w.heap.size w wr ∧ Loc wr w.heap.size #[.int .i64 f, .slice A N cap] 24 ∧ Hid (∀ x ∈ l.take k, x.t.args.length ≤ 300 ∧ x.t.proc.code.length ≤ 300)) (fun _ i _ => N - (intOf i).toNat)
  case atStart => exact ⟨0, 0, Nat.zero_le _, Nat.zero_le _, rfl, rfl, b0, L0, Lib.hid (fun x hx => by simp at hx)⟩
  case round =>
    obtain ⟨wi, rfl⟩ : ∃ wi, wi = wr := ⟨_, rfl⟩
    obtain ⟨k, m, hk, hm, rfl, rfl, bi, Li, HT⟩ := hrel
    have p1 := Li.cell 1
    simp at p1
    clear b0 L0
    by_cases hkn : k < N
    · have hkl : k < l.length := by rw [← HN.out]; exact hkn
      obtain ⟨b, off, rfl, hbl, hc⟩ := (HR.out.of_below bi (Nat.le_refl _)).txns (by omega)
      have hcx := hc k hkl
      have htk : l.take (k + 1) = l.take k ++ [l[k]] := List.take_succ_eq_append_getElem hkl
      generalize l[k] = X at *
      obtain ⟨⟨xk, ⟨xn, xa, xc⟩, xm, xv⟩, XA, xca, XB, xcb⟩ := X
      have x3 := hcx 3 (by decide); have x5 := hcx 5 (by decide)
      simp only [TxnC.cells, List.getElem?_toArray, List.getElem?_cons_zero, List.getElem?_cons_succ] at x3 x5
      obtain ⟨na, hna⟩ : ∃ na, na = xv.length := ⟨_, rfl⟩
      obtain ⟨nc, hnc⟩ : ∃ nc, nc = xc.length := ⟨_, rfl⟩
      rw [← hnc] at x3
      rw [← hna] at x5
      have HTK := Lib.hid htk
      have HNA := Lib.hid hna
      have HNC := Lib.hid hnc
      have hkn' : (k : Int) < (N : Int) := by omega
      clear hc hcx htk hna hnc
      by_cases ha : 300 < na
      · have ha' : (300 : Int) < (na : Int) := by omega
        go_wp2
        go_ret
        exact ⟨LongP.yes, bi⟩
      · have ha' : ¬ (300 : Int) < (na : Int) := by omega
        by_cases hb : 300 < nc
        · have hb' : (300 : Int) < (nc : Int) := by omega
          go_wp2
          go_ret
          exact ⟨LongP.yes, bi⟩
        · have hb' : ¬ (300 : Int) < (nc : Int) := by omega
          have w1 : IntKind.i64.wrap ((m : Int) + (na : Int)) = (m : Int) + (na : Int) := by simp [IntKind.bits, IntKind.wrap, IntKind.signed]; omega
          have w2 : IntKind.i64.wrap ((m : Int) + (na : Int) + (nc : Int)) = (m : Int) + (na : Int) + (nc : Int) := by simp [IntKind.bits, IntKind.wrap, IntKind.signed]; omega
          go_wp2
          go_quiet (fail)
          go_wp2
          go_roundw
          case rel =>
            refine ⟨k + 1, m + na + nc, by omega, by omega, by go_num, by go_num, below_drewN bi _, Li.drewN _, Lib.hid (fun x hx => ?_)⟩
            rw [HTK.out] at hx
            rcases List.mem_append.1 hx with hx | hx
            · exact HT.out x hx
            · rw [List.mem_singleton.1 hx]
              show xv.length ≤ 300 ∧ xc.length ≤ 300
              rw [← HNA.out, ← HNC.out]
              omega
          case measure => simp [intOf]; omega
    · obtain rfl : k = N := by omega
      go_wp2
      go_ret
      have h := HT.out
      rw [List.take_of_length_le (by rw [← HN.out]; exact Nat.le_refl _)] at h
      exact ⟨LongP.mk ⟨by rw [← HN.out]; omega, h⟩, bi⟩
end Go.Proofs.Ytnmcdifkknphgaa
