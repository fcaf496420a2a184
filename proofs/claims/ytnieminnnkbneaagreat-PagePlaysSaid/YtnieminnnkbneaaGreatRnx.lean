/- Walk of treadleref4.Next. -/
import Derived.Test.YtnieminnnkbneaaGreatMg
namespace Go.Proofs.YtnieminnnkbneaaGreat
open Go.RowKit
set_option linter.unusedVariables false

theorem r4number_any (xs : Bs) (b off n p cap : Nat) (hn : p + 4 ≤ n) (hl : n = xs.length) (w : World) (h : ∀ j (hj : j < xs.length), w.cell? ⟨b, off + j, none⟩ = some (.int .u8 xs[j].toNat)) :
  Calls Tryz.prog 62 #[.slice (some ⟨b, off + p, none⟩) 4 cap] w fun e w' => e = .returned (.int .i64 (wordAt xs p : Nat)) ∧ Below w.heap.size w w' := by
 have hx : ∀ j, p + j < xs.length → w.cell? ⟨b, off + p + j, none⟩ = some (u8v (xs.getD (p + j) 0)) := fun j hj => by
  rw [Nat.add_assoc, h (p + j) hj, List.getD_eq_getElem?_getD, List.getElem?_eq_getElem hj]
  rfl
 exact rnumber_any' b (off + p) 4 cap (by omega) _ _ _ _ w (hx 0 (by omega)) (hx 1 (by omega)) (hx 2 (by omega)) (hx 3 (by omega))

theorem rnext0_any (A : Option Addr) (c : Nat) (w : World) :
  Calls Tryz.prog 30 #[.slice A 0 c, .int .i64 0] w fun e w' => e = .returned (.tuple #[.slice none 0 0, .int .i64 0, .int .i64 12]) ∧ Below w.heap.size w w' := by
 go_enter Tryz.func30, Tryz.ntmps30
 go_wp2
 go_ret3
 exact ⟨rfl, Below.refl _ _⟩

set_option maxRecDepth 100000 in
set_option maxHeartbeats 4000000 in
theorem rnext_any (xs : Bs) (b off n c p : Nat) (hn : n = xs.length) (hnc : n ≤ c) (hlen : n ≤ 1000000000) (hp : p ≤ n) (w : World) (hA : ∀ j (hj : j < xs.length), w.cell? ⟨b, off + j, none⟩ = some (.int .u8 xs[j].toNat)) :
  Calls Tryz.prog 30 #[.slice (some ⟨b, off, none⟩) n c, .int .i64 p] w fun e w' => (∃ v, e = .returned v ∧ NextR xs n p w.heap.size v w') ∧ Below w.heap.size w w' := by
 have hcell : n ≠ 0 → ∀ W, Below w.heap.size w W → ∀ j (hj : j < xs.length), W.cell? ⟨b, off + j, none⟩ = some (.int .u8 xs[j].toNat) := fun h0 W hW j hj => by
  rw [← hA j hj]
  exact hW.cell (p := ⟨b, off + j, none⟩) (World.block_lt_of_cell? w _ (hA j hj))
 have HA := Lib.hid hcell
 have HN := Lib.hid hn
 clear hA hcell
 have i0 : ¬ (p : Int) < 0 := by omega
 have i1 : ¬ (n : Int) < (p : Int) := by omega
 by_cases hpn : p = n
 ·obtain rfl : p = n := hpn
  have e0 : ((p : Int) == (p : Int)) = true := by simp
  have hv : ∀ W, NextR xs p p w.heap.size (.tuple #[.slice none 0 0, .int .i64 0, .int .i64 12]) W := fun W => .inl (by
   have : nextE xs p = 12 := by unfold nextE; rw [if_pos (by omega)]
   rw [this]; exact ⟨by decide, rfl⟩)
  have HV := Lib.hid hv
  clear hv hn
  go_enter Tryz.func30, Tryz.ntmps30
  go_wp2
  go_ret3
  exact ⟨⟨_, rfl, HV.out _⟩, Below.refl _ _⟩
 ·have e0 : ((p : Int) == (n : Int)) = false := by simp; omega
  have hw1 : IntKind.i64.wrap ((n : Int) - (p : Int)) = (n : Int) - (p : Int) := by simp [IntKind.bits, IntKind.wrap, IntKind.signed]; omega
  by_cases h8 : n - p < 8
  ·have e1 : (n : Int) - (p : Int) < 8 := by omega
   have hv : ∀ W, NextR xs n p w.heap.size (.tuple #[.slice none 0 0, .int .i64 0, .int .i64 13]) W := fun W => .inl (by
    have : nextE xs p = 13 := by unfold nextE; rw [if_neg (by omega), if_pos (by omega)]
    rw [this]; exact ⟨by decide, rfl⟩)
   have HV := Lib.hid hv
   clear hv hn
   go_enter Tryz.func30, Tryz.ntmps30
   go_wp2
   go_ret3
   exact ⟨⟨_, rfl, HV.out _⟩, Below.refl _ _⟩
  ·have e1 : ¬ (n : Int) - (p : Int) < 8 := by omega
   have hsub : ∀ (lo hi : Nat) (il ih : Int), il = (lo : Int) → ih = (hi : Int) → lo ≤ hi → lo < c → hi ≤ c → ∀ W, (Instr.slice 33 (.slice (some ⟨b, off, none⟩) n c) (some (.int .i64 il)) (some (.int .i64 ih)) none).run Tryz.prog W = .ok (.slice (some ⟨b, off + lo, none⟩) (hi - lo) (c - lo)) W := fun lo hi il ih e1 e2 h1 h2 h3 W => by
    rw [e1, e2, run_subs (P := Tryz.prog) 33 5 1 Tryz.underlying33 hszU8 _ n c lo hi h1 h3 W, subAddr_at _ _ _ _ h2]
   have hs7 := hsub p (p + 4) (p : Int) ((p : Int) + 4) rfl (by omega) (by omega) (by omega) (by omega)
   rw [show p + 4 - p = 4 by omega] at hs7
   have HW := Lib.hid (fun W (hW : Below w.heap.size w W) => r4number_any xs b off n p (c - p) (by omega) hn W (HA.out (by omega) W hW))
   have HSUB := Lib.hid hsub
   clear hn hsub
   go_enter Tryz.func30, Tryz.ntmps30
   go_upto_region 8 with (go_at_call 62; refine (HW.out _ (Below.refl _ _)).mono ?_; rintro e w1 ⟨rfl, b1⟩)
   obtain ⟨K, hK⟩ : ∃ K, K = wordAt xs p := ⟨_, rfl⟩
   have hKl : K < 4294967296 := by rw [hK]; exact wordAt_lt _ _
   rw [← hK]
   have hw2 : IntKind.i64.wrap ((n : Int) - (p : Int) - 8) = (n : Int) - (p : Int) - 8 := by simp [IntKind.bits, IntKind.wrap, IntKind.signed]; omega
   have HK := Lib.hid hK
   clear hK
   by_cases hbad : K = 0 ∨ 65536 < K ∨ n - p - 8 < K
   ·have hv : ∀ W, NextR xs n p w.heap.size (.tuple #[.slice none 0 0, .int .i64 0, .int .i64 13]) W := fun W => .inl (by
     have : nextE xs p = 13 := by
      unfold nextE
      rw [← HN.out, ← HK.out, if_neg hpn, if_neg h8, if_pos hbad]
     rw [this]; exact ⟨by decide, rfl⟩)
    have HV := Lib.hid hv
    clear hv
    by_cases hk0 : K = 0
    ·subst hk0
     go_wp2
     go_ret3
     exact ⟨⟨_, rfl, HV.out _⟩, b1⟩
    ·have k0 : ¬ (K : Int) < 1 := by omega
     by_cases hk1 : 65536 < K
     ·have k1 : (65536 : Int) < (K : Int) := by omega
      clear hbad
      go_wp2
      go_ret3
      exact ⟨⟨_, rfl, HV.out _⟩, b1⟩
     ·have k1 : ¬ (65536 : Int) < (K : Int) := by omega
      have k2 : (n : Int) - (p : Int) - 8 < (K : Int) := by omega
      clear hbad
      go_wp2
      go_ret3
      exact ⟨⟨_, rfl, HV.out _⟩, b1⟩
   ·have k0 : ¬ (K : Int) < 1 := by omega
    have k1 : ¬ (65536 : Int) < (K : Int) := by omega
    have k2 : ¬ (n : Int) - (p : Int) - 8 < (K : Int) := by omega
    have hK1 : 1 ≤ K ∧ K ≤ 65536 ∧ p + 8 + K ≤ n := by omega
    have HBAD := Lib.hid hbad
    clear hbad
    have hs10 := HSUB.out (p + 8) (p + 8 + K) ((p : Int) + 8) ((p : Int) + 8 + (K : Int)) (by omega) (by omega) (by omega) (by omega) (by omega)
    rw [show p + 8 + K - (p + 8) = K by omega] at hs10
    have hs12 := HSUB.out (p + 4) (p + 8) ((p : Int) + 4) ((p : Int) + 8) (by omega) (by omega) (by omega) (by omega) (by omega)
    rw [show p + 8 - (p + 4) = 4 by omega] at hs12
    have hw3 : IntKind.i64.wrap ((p : Int) + 8) = (p : Int) + 8 := by simp [IntKind.bits, IntKind.wrap, IntKind.signed]; omega
    have hw4 : IntKind.i64.wrap ((p : Int) + 8 + (K : Int)) = (p : Int) + 8 + (K : Int) := by simp [IntKind.bits, IntKind.wrap, IntKind.signed]; omega
    have hw5 : IntKind.i64.wrap ((p : Int) + 4) = (p : Int) + 4 := by simp [IntKind.bits, IntKind.wrap, IntKind.signed]; omega
    obtain ⟨K2, hK2⟩ : ∃ K2, K2 = wordAt xs (p + 4) := ⟨_, rfl⟩
    obtain ⟨S2, hS2⟩ : ∃ S2, S2 = sumN ((xs.drop p).take 4) (bodyAt xs p) := ⟨_, rfl⟩
    have HW2 : Hid (∀ W, Below w.heap.size w W → Calls Tryz.prog 62 #[.slice (some ⟨b, off + (p + 4), none⟩) 4 (c - (p + 4))] W fun e w' => e = .returned (.int .i64 (K2 : Nat)) ∧ Below w.heap.size w w') := Lib.hid (fun W hW => by
     rw [hK2]
     exact (r4number_any xs b off n (p + 4) (c - (p + 4)) (by omega) HN.out W (HA.out (by omega) W hW)).mono (fun e w' h => ⟨h.1, below_then hW h.2 hW.size⟩))
    have hbd : bodyAt xs p = (xs.drop (p + 8)).take K := by rw [bodyAt, ← HK.out]
    have hbl : (bodyAt xs p).length = K := by rw [hbd, List.length_take, List.length_drop]; have := HN.out; omega
    have HO2 : Hid (∀ W, Below w.heap.size w W → Calls Tryz.prog 63 #[.slice (some ⟨b, off + p, none⟩) 4 (c - p), .slice (some ⟨b, off + (p + 8), none⟩) K (c - (p + 8))] W fun e w' => e = .returned (.int .i64 (S2 : Nat)) ∧ Below w.heap.size w w') := Lib.hid (fun W hW => by
     rw [hS2]
     have hrow := rowAt (HA.out (by omega) W hW) (p + 8) K (by have := HN.out; omega)
     rw [← hbd] at hrow
     exact (rsum_any ((xs.drop p).take 4) (bodyAt xs p) _ _ 4 K (c - p) (c - (p + 8)) (by have := HN.out; rw [List.length_take, List.length_drop]; omega) hbl.symm (by omega) (by omega) W (rowAt (HA.out (by omega) W hW) p 4 (by have := HN.out; omega)) hrow).mono (fun e w' h => ⟨h.1, by rw [h.2]; exact hW⟩))
    have HSRC : Hid (∀ W, Below w.heap.size w W → Src Tryz.prog 1 33 (.slice (some ⟨b, off + (p + 8), none⟩) K (c - (p + 8))) K (cellsB (bodyAt xs p)) W) := Lib.hid (fun W hW => by
     have hrow := rowAt (HA.out (by omega) W hW) (p + 8) K (by have := HN.out; omega)
     rw [← hbd] at hrow
     exact hrow.src (P := Tryz.prog) (size := 1) (n := K) (tx := 33) Tryz.underlying33 (by rw [cellsB_length, hbl]; omega) (cellsB_one _) (fun h => by cases h))
    have HE : Hid (nextE xs p = if K2 = S2 then 0 else 13) := Lib.hid (by
     unfold nextE
     rw [← HN.out, ← HK.out, if_neg hpn, if_neg h8, if_neg HBAD.out, ← hK2, hS2]
     rfl)
    have HK1 := Lib.hid hK1
    clear hK2 hS2 hK1 hbd hbl HSUB HW
    by_cases heq : K2 = S2
    ·subst heq
     have hw0 := b1.size
     go_upto_region 11 with (fail)
     go_region_held3 (fun W => Below w.heap.size w W) ((first | assumption | exact below_drewN (by assumption) 1)) ((first | (go_at_call 62; refine (HW2.out _ (by first | assumption | exact below_drewN (by assumption) 1)).mono ?_; rintro e w2 ⟨rfl, b2⟩) | (go_at_call 63; refine (HO2.out _ (by first | assumption | exact below_drewN (by assumption) 1)).mono ?_; rintro e w3 ⟨rfl, b3⟩)))
     all_goals
      go_wp2_with (at_builtin; refine wpList_append_mine _ rfl _ _ 33 33 rfl 5 (.int .u8 0) 1 1 Tryz.underlying33 infoU8 rfl (by decide) (.slice none 0 0) 0 [] rfl (World.ownsRow_nil _ _ _ _) (.slice (some ⟨b, off + (p + 8), none⟩) K (c - (p + 8))) K (cellsB (bodyAt xs p)) rfl (HSRC.out _ (by assumption)) (by unfold maxLen; omega) (by omega) ?_; intro A4 c4 w4 hown4 hg4 hb4 hx4; obtain ⟨o4, b4⟩ := own_next0 (World.ownsRow_nil _ w.heap.size _ _) hown4 hg4 hb4 (Below.size (by assumption)) (by assumption); rw [Nat.zero_add, List.nil_append] at o4; clear hx4 hg4 hb4 hown4)
      go_ret3
      refine ⟨⟨_, rfl, .inr ⟨by rw [HE.out]; first | exact if_pos rfl | exact if_pos trivial, by rw [← HK.out]; exact HK1.out.1, by rw [← HK.out]; exact HK1.out.2.1, by rw [← HK.out]; exact HK1.out.2.2, ?_⟩⟩, b4⟩
      have hA' : ∃ g, A4 = some ⟨g, 0, none⟩ := by
       rcases o4.2 with ⟨h, h0⟩ | ⟨g, c1, cur, h, _⟩
       ·have := HK1.out.1; omega
       ·simp only [Value.slice.injEq] at h
        exact ⟨g, h.1⟩
      obtain ⟨g, rfl⟩ := hA'
      rw [← HK.out]
      exact ⟨g, c4, by simp, o4⟩
    ·have hne : ((S2 : Int) == (K2 : Int)) = false := by simp; omega
     have hv : ∀ W, NextR xs n p w.heap.size (.tuple #[.slice none 0 0, .int .i64 0, .int .i64 13]) W := fun W => .inl (by
      rw [HE.out, if_neg heq]
      exact ⟨by decide, rfl⟩)
     have HV := Lib.hid hv
     clear hv heq
     go_upto_region 11 with (fail)
     go_region_held3 (fun W => Below w.heap.size w W) ((first | assumption | exact below_drewN (by assumption) 1)) ((first | (go_at_call 62; refine (HW2.out _ (by first | assumption | exact below_drewN (by assumption) 1)).mono ?_; rintro e w2 ⟨rfl, b2⟩) | (go_at_call 63; refine (HO2.out _ (by first | assumption | exact below_drewN (by assumption) 1)).mono ?_; rintro e w3 ⟨rfl, b3⟩)))
     all_goals
      go_wp2
      go_ret3
      exact ⟨⟨_, rfl, HV.out _⟩, by assumption⟩
end Go.Proofs.YtnieminnnkbneaaGreat
