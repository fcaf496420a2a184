/- Walk of treadlelaw14.long. -/
import Derived.Test.YtnieminnnkbneaaGreatLop
namespace Go.Proofs.YtnieminnnkbneaaGreat
open Go.RowKit

/-- What long answers: if it says no, there is no more than it plays. -/
def LongPs (l : List PieceC) (w : World) (e : Ending) (w' : World) : Prop :=
 ∃ b, e = .returned (.bool b) ∧ Below w.heap.size w w' ∧ (b = false → l.length ≤ 60 ∧ ∀ x ∈ l, x.ps.length ≤ 300 ∧ x.es.length ≤ 300 ∧ ∀ y ∈ x.ps, y.p.code.length ≤ 300)
theorem LongPs.yes {l : List PieceC} {w w' : World} (hb : Below w.heap.size w w') : LongPs l w (.returned (.bool true)) w' := ⟨true, rfl, hb, fun h => by cases h⟩

set_option maxHeartbeats 4000000 in
theorem long_any (l : List PieceC) (A : Option Addr) (cap : Nat) (w : World) (hr : Row w A (piecesCells l)) (hc : ∀ x ∈ l, x.came w) (hl : l.length ≤ maxLen) :
  Calls Tryz.prog 6 #[.slice A l.length cap] w (LongPs l w) := by
 unfold maxLen at hl
 obtain ⟨n, hn⟩ : ∃ n, n = l.length := ⟨_, rfl⟩
 rw [← hn] at hl ⊢
 have HR := Lib.hid hr
 have HC := Lib.hid hc
 have HN := Lib.hid hn
 clear hr hc hn
 by_cases h60 : 60 < n
 ·have t0 : (60 : Int) < (n : Int) := by omega
  go_enter Tryz.func6, Tryz.ntmps6
  go_wp2
  go_ret
  exact .yes (Below.refl _ _)
 ·have t0 : ¬ (60 : Int) < (n : Int) := by omega
  go_enter Tryz.func6, Tryz.ntmps6
  go_wp2
  go_loop [3] (fun i => ∃ k : Nat, k ≤ n ∧ i = .int .i64 k ∧ Hid (∀ j (hj : j < l.length), j < k → (l[j]).ps.length ≤ 300 ∧ (l[j]).es.length ≤ 300 ∧ ∀ y ∈ (l[j]).ps, y.p.code.length ≤ 300)) (fun i => n - (intOf i).toNat)
  case atStart => exact ⟨0, Nat.zero_le _, rfl, Lib.hid (fun _ _ h => by omega)⟩
  case round =>
   obtain ⟨k, hk, rfl, HK⟩ := hrel
   by_cases hkn : k < n
   ·have hkn' : (k : Int) < (n : Int) := by omega
    have hkl : k < l.length := by rw [← HN.out]; exact hkn
    obtain ⟨b, off, rfl, _, hcc⟩ := HR.out.pieces (by omega)
    have hcx := hcc k hkl
    have hcm := HC.out l[k] (List.getElem_mem hkl)
    have hst : ∀ j (hj : j < l.length), j < k + 1 → (∀ hk' : k < l.length, (l[k]).ps.length ≤ 300 ∧ (l[k]).es.length ≤ 300 ∧ ∀ y ∈ (l[k]).ps, y.p.code.length ≤ 300) → (l[j]).ps.length ≤ 300 ∧ (l[j]).es.length ≤ 300 ∧ ∀ y ∈ (l[j]).ps, y.p.code.length ≤ 300 := fun j hj h1 h2 => by
     rcases Nat.lt_or_ge j k with h | h
     ·exact HK.out j hj h
     ·obtain rfl : j = k := by omega
      exact h2 hj
    obtain ⟨X, hX⟩ : ∃ X, X = l[k] := ⟨_, rfl⟩
    have hst2 : Hid ((X.ps.length ≤ 300 ∧ X.es.length ≤ 300 ∧ ∀ y ∈ X.ps, y.p.code.length ≤ 300) → ∀ j (hj : j < l.length), j < k + 1 → (l[j]).ps.length ≤ 300 ∧ (l[j]).es.length ≤ 300 ∧ ∀ y ∈ (l[j]).ps, y.p.code.length ≤ 300) := Lib.hid (fun h j hj h1 => hst j hj h1 (fun _ => by rw [← hX]; exact h))
    rw [← hX] at hcx hcm
    clear hst hX HK hcc
    obtain ⟨ps, P, cp, es, E, ce, fb⟩ := X
    have x0 := hcx 0 (by decide); have x1 := hcx 1 (by decide)
    simp only [PieceC.cells, List.getElem?_toArray, List.getElem?_cons_zero, List.getElem?_cons_succ, Nat.add_zero] at x0 x1
    have hps := hcm.lp; have hpm := hcm.mp; have hes := hcm.le; have hem := hcm.me
    simp only at hps hpm hes hem hst2
    unfold maxLen at hpm hem
    obtain ⟨np, hnp⟩ : ∃ np, np = ps.length := ⟨_, rfl⟩
    obtain ⟨ne, hne⟩ : ∃ ne, ne = es.length := ⟨_, rfl⟩
    rw [← hnp] at x0 hps
    rw [← hne] at x1 hes
    have HRP := Lib.hid hcm.rp
    have HIP := Lib.hid hcm.ip
    have HNP := Lib.hid hnp
    have HNE := Lib.hid hne
    simp only at HRP HIP
    clear hcx hcm hnp hne
    by_cases h1 : 300 < np
    ·have t1 : (300 : Int) < (np : Int) := by omega
     go_wp2
     go_ret
     exact .yes (Below.refl _ _)
    by_cases h2 : 300 < ne
    ·have t1 : ¬ (300 : Int) < (np : Int) := by omega
     have t2 : (300 : Int) < (ne : Int) := by omega
     go_wp2
     go_ret
     exact .yes (Below.refl _ _)
    have t1 : ¬ (300 : Int) < (np : Int) := by omega
    have t2 : ¬ (300 : Int) < (ne : Int) := by omega
    go_wp2
    go_loop [4] (fun i => ∃ j : Nat, j ≤ np ∧ i = .int .i64 j ∧ Hid (∀ y ∈ ps.take j, y.p.code.length ≤ 300)) (fun i => np - (intOf i).toNat)
    case atStart => exact ⟨0, Nat.zero_le _, rfl, Lib.hid (fun _ h => by simp at h)⟩
    case round =>
     obtain ⟨j, hj, rfl, HJ⟩ := hrel
     by_cases hjn : j < np
     ·have hjn' : (j : Int) < (np : Int) := by omega
      have hjl : j < ps.length := by rw [← HNP.out]; exact hjn
      obtain ⟨b2, off2, rfl, _, hcc⟩ := HRP.out.prcs (by omega)
      have hcx := hcc j hjl 2 (by decide)
      have htk : ps.take (j + 1) = ps.take j ++ [ps[j]] := List.take_succ_eq_append_getElem hjl
      have hym := HIP.out ps[j] (List.getElem_mem hjl)
      generalize ps[j] = Y at *
      simp only [PrcC.cells, procCells, List.getElem?_toArray, List.getElem?_cons_zero, List.getElem?_cons_succ] at hcx
      have hyl := hym.l; have hymm := hym.m
      unfold maxLen at hymm
      obtain ⟨nc, hnc⟩ : ∃ nc, nc = Y.p.code.length := ⟨_, rfl⟩
      rw [← hnc] at hcx hyl
      have HNC := Lib.hid hnc
      have HTK := Lib.hid htk
      clear hcc htk hym hnc
      by_cases h3 : 300 < nc
      ·have t3 : (300 : Int) < (nc : Int) := by omega
       go_wp2
       go_ret
       exact .yes (Below.refl _ _)
      ·have t3 : ¬ (300 : Int) < (nc : Int) := by omega
       go_wp2
       go_round
       case rel =>
        refine ⟨j + 1, by omega, by go_num, Lib.hid (fun y hy => ?_)⟩
        rw [HTK.out] at hy
        rcases List.mem_append.1 hy with hy | hy
        ·exact HJ.out y hy
        ·rw [List.mem_singleton.1 hy, ← HNC.out]; omega
       case measure => simp [intOf]; omega
     ·have HF : Hid (∀ y ∈ ps, y.p.code.length ≤ 300) := Lib.hid (fun y hy => HJ.out y (by rw [List.take_of_length_le (by rw [← HNP.out]; omega)]; exact hy))
      have hjn' : ¬ (j : Int) < (np : Int) := by omega
      go_wp2
      go_round
      case rel => exact ⟨k + 1, by omega, by go_num, Lib.hid (hst2.out ⟨by rw [← HNP.out]; omega, by rw [← HNE.out]; omega, HF.out⟩)⟩
      case measure => simp [intOf]; omega
   ·have hkn' : ¬ (k : Int) < (n : Int) := by omega
    go_wp2
    go_ret
    refine ⟨false, rfl, Below.refl _ _, fun _ => ⟨by rw [← HN.out]; omega, fun x hx => ?_⟩⟩
    obtain ⟨j, hj, rfl⟩ := List.getElem_of_mem hx
    exact HK.out j hj (by have := HN.out; omega)
end Go.Proofs.YtnieminnnkbneaaGreat
