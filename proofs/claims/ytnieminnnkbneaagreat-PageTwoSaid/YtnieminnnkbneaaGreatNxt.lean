/- Walks of frame.next, Next. -/
import Derived.Test.YtnieminnnkbneaaGreatCat
namespace Go.Proofs.YtnieminnnkbneaaGreat
open Go.RowKit

theorem run_subFrom {P : Program} (t e : TypeId) (size : Nat) (hu : P.underlying t = some (.slice e)) (hs : (P.info? e).map (·.size) = some size) (A : Option Addr) (len cap lo : Nat) (h1 : lo ≤ len) (W : World) :
    (Instr.slice t (.slice A len cap) (some (.int .i64 (lo : Int))) none none).run P W = .ok (.slice (subAddr A lo cap size) (len - lo) (cap - lo)) W := by
  obtain ⟨i, hi', hsz⟩ : ∃ i, P.info? e = some i ∧ i.size = size := by
    cases h : P.info? e with
    | none => simp [h] at hs
    | some i => exact ⟨i, rfl, by simpa [h] using hs⟩
  have el : (lo : Int).toNat = lo := rfl
  simp [Instr.slice, run_underlying hu, Instr.sliceBounds, run_sliceBound, sizeOf, typeInfo, hi', hsz, subAddr, h1]

theorem subAddr_at (b off lo cap : Nat) (h : lo < cap) : subAddr (some ⟨b, off, none⟩) lo cap 1 = some ⟨b, off + lo, none⟩ := by
  unfold subAddr
  rw [if_neg (by omega)]
  simp only [Option.map_some, Nat.mul_one]
  congr 1
  unfold Addr.add
  split <;> simp_all

theorem hszU8 : (Tryz.prog.info? 5).map (·.size) = some 1 := by kernel_rfl

/-- The word at a place. -/
def wordAt (xs : Bs) (p : Nat) : Nat := wordOf (xs.getD p 0) (xs.getD (p + 1) 0) (xs.getD (p + 2) 0) (xs.getD (p + 3) 0)
theorem wordAt_lt (xs : Bs) (p : Nat) : wordAt xs p < 4294967296 := wordOf_lt _ _ _ _
/-- The body of the frame at a place. -/
def bodyAt (xs : Bs) (p : Nat) : Bs := (xs.drop (p + 8)).take (wordAt xs p)
/-- Why there is no frame at a place. -/
def nextE (xs : Bs) (p : Nat) : Nat :=
  if p = xs.length then 12
  else if xs.length - p < 8 then 13
  else if wordAt xs p = 0 ∨ 65536 < wordAt xs p ∨ xs.length - p - 8 < wordAt xs p then 13
  else if wordAt xs (p + 4) = crcUpd (crcUpd 0 ((xs.drop p).take 4)) (bodyAt xs p) then 0
  else 13

theorem rowAt {W : World} {b off : Nat} {xs : Bs} (h : ∀ j (hj : j < xs.length), W.cell? ⟨b, off + j, none⟩ = some (.int .u8 xs[j].toNat)) (p m : Nat) (hm : p + m ≤ xs.length) : Row W (some ⟨b, off + p, none⟩) (cellsB ((xs.drop p).take m)) := by
  refine .inr ⟨b, off + p, rfl, fun j hj => ?_⟩
  have hj' : j < m := by rw [cellsB_length, List.length_take] at hj; omega
  rw [Nat.add_assoc, h (p + j) (by omega)]
  simp [cellsB, hj', List.getElem?_drop, List.getElem?_eq_getElem (show p + j < xs.length by omega)]

theorem wordR_any (xs : Bs) (b off n p cap : Nat) (hn : p + 4 ≤ n) (hl : n = xs.length) (w : World) (h : ∀ j (hj : j < xs.length), w.cell? ⟨b, off + j, none⟩ = some (.int .u8 xs[j].toNat)) :
    Calls Tryz.prog 101 #[.slice (some ⟨b, off + p, none⟩) (n - p) cap] w fun e w' => e = .returned (.int .u32 (wordAt xs p : Nat)) ∧ Below w.heap.size w w' := by
  have hx : ∀ j, p + j < xs.length → w.cell? ⟨b, off + p + j, none⟩ = some (u8v (xs.getD (p + j) 0)) := fun j hj => by
    rw [Nat.add_assoc, h (p + j) hj, List.getD_eq_getElem?_getD, List.getElem?_eq_getElem hj]
    rfl
  exact word_any b (off + p) (n - p) cap (by omega) _ _ _ _ w (hx 0 (by omega)) (hx 1 (by omega)) (hx 2 (by omega)) (hx 3 (by omega))

/-- What next answers. -/
def NextP (xs : Bs) (b off n c p : Nat) (v : Value) : Prop :=
  (nextE xs p ≠ 0 ∧ v = .tuple #[.slice none 0 0, .int .i64 0, .int .i64 (nextE xs p : Nat)]) ∨
  (nextE xs p = 0 ∧ 0 < wordAt xs p ∧ wordAt xs p ≤ 65536 ∧ p + 8 + wordAt xs p ≤ n ∧ v = .tuple #[.slice (some ⟨b, off + (p + 8), none⟩) (wordAt xs p) (c - (p + 8)), .int .i64 (p + 8 + wordAt xs p : Nat), .int .i64 0])

set_option maxHeartbeats 4000000 in
theorem next_any (xs : Bs) (b off n c p : Nat) (hn : n = xs.length) (hnc : n ≤ c) (hlen : n ≤ 1000000000) (hp : p ≤ n) (w : World) (hA : ∀ j (hj : j < xs.length), w.cell? ⟨b, off + j, none⟩ = some (.int .u8 xs[j].toNat)) :
    Calls Tryz.prog 56 #[.slice (some ⟨b, off, none⟩) n c, .int .i64 p] w fun e w' => (∃ v, e = .returned v ∧ NextP xs b off n c p v) ∧ Below w.heap.size w w' := by
  have hcell : n ≠ 0 → ∀ W, Below w.heap.size w W → ∀ j (hj : j < xs.length), W.cell? ⟨b, off + j, none⟩ = some (.int .u8 xs[j].toNat) := fun h0 W hW j hj => by
    rw [← hA j hj]
    exact hW.cell (p := ⟨b, off + j, none⟩) (World.block_lt_of_cell? w _ (hA j hj))
  have HA := Lib.hid hcell
  have HN := Lib.hid hn
  clear hA hcell
  have i0 : ¬ (p : Int) < 0 := by omega
  have i1 : ¬ (n : Int) < (p : Int) := by omega
  by_cases hpn : p = n
  · obtain rfl : p = n := hpn
    have e0 : ((p : Int) == (p : Int)) = true := by simp
    have hv : NextP xs b off p c p (.tuple #[.slice none 0 0, .int .i64 0, .int .i64 12]) := .inl (by
      have : nextE xs p = 12 := by unfold nextE; rw [if_pos (by omega)]
      rw [this]; exact ⟨by decide, rfl⟩)
    have HV := Lib.hid hv
    clear hv hn
    go_enter Tryz.func56, Tryz.ntmps56
    go_wp2
    go_ret3
    exact ⟨⟨_, rfl, HV.out⟩, Below.refl _ _⟩
  · have e0 : ((p : Int) == (n : Int)) = false := by simp; omega
    have hw1 : IntKind.i64.wrap ((n : Int) - (p : Int)) = (n : Int) - (p : Int) := by simp [IntKind.bits, IntKind.wrap, IntKind.signed]; omega
    by_cases h8 : n - p < 8
    · have e1 : (n : Int) - (p : Int) < 8 := by omega
      have hv : NextP xs b off n c p (.tuple #[.slice none 0 0, .int .i64 0, .int .i64 13]) := .inl (by
        have : nextE xs p = 13 := by unfold nextE; rw [if_neg (by omega), if_pos (by omega)]
        rw [this]; exact ⟨by decide, rfl⟩)
      have HV := Lib.hid hv
      clear hv hn
      go_enter Tryz.func56, Tryz.ntmps56
      go_wp2
      go_ret3
      exact ⟨⟨_, rfl, HV.out⟩, Below.refl _ _⟩
    · have e1 : ¬ (n : Int) - (p : Int) < 8 := by omega
      have hs7 : ∀ W, (Instr.slice 33 (.slice (some ⟨b, off, none⟩) n c) (some (.int .i64 (p : Int))) none none).run Tryz.prog W = .ok (.slice (some ⟨b, off + p, none⟩) (n - p) (c - p)) W := fun W => by
        rw [run_subFrom (P := Tryz.prog) 33 5 1 Tryz.underlying33 hszU8 _ n c p hp W, subAddr_at _ _ _ _ (by omega)]
      have HW := Lib.hid (fun W (hW : Below w.heap.size w W) => wordR_any xs b off n p (c - p) (by omega) hn W (HA.out (by omega) W hW))
      clear hn
      go_enter Tryz.func56, Tryz.ntmps56
      go_upto_region 8 with (go_at_call 101; refine (HW.out _ (Below.refl _ _)).mono ?_; rintro e w1 ⟨rfl, b1⟩)
      obtain ⟨K, hK⟩ : ∃ K, K = wordAt xs p := ⟨_, rfl⟩
      have hKl : K < 4294967296 := by rw [hK]; exact wordAt_lt _ _
      rw [← hK]
      have hwk : IntKind.i64.wrap (K : Int) = (K : Int) := by simp [IntKind.bits, IntKind.wrap, IntKind.signed]; omega
      have hw2 : IntKind.i64.wrap ((n : Int) - (p : Int) - 8) = (n : Int) - (p : Int) - 8 := by simp [IntKind.bits, IntKind.wrap, IntKind.signed]; omega
      have HK := Lib.hid hK
      clear hK HW
      by_cases hbad : K = 0 ∨ 65536 < K ∨ n - p - 8 < K
      · have hv : NextP xs b off n c p (.tuple #[.slice none 0 0, .int .i64 0, .int .i64 13]) := .inl (by
          have : nextE xs p = 13 := by
            unfold nextE
            rw [← HN.out, ← HK.out, if_neg hpn, if_neg h8, if_pos hbad]
          rw [this]; exact ⟨by decide, rfl⟩)
        have HV := Lib.hid hv
        clear hv
        by_cases hk0 : K = 0
        · subst hk0
          go_wp2
          go_ret3
          exact ⟨⟨_, rfl, HV.out⟩, b1⟩
        · have k0 : ((K : Int) == 0) = false := by simp; omega
          by_cases hk1 : 65536 < K
          · have k1 : (65536 : Int) < (K : Int) := by omega
            clear hbad
            go_wp2
            go_ret3
            exact ⟨⟨_, rfl, HV.out⟩, b1⟩
          · have k1 : ¬ (65536 : Int) < (K : Int) := by omega
            have k2 : (n : Int) - (p : Int) - 8 < (K : Int) := by omega
            clear hbad
            go_wp2
            go_ret3
            exact ⟨⟨_, rfl, HV.out⟩, b1⟩
      · have k0 : ((K : Int) == 0) = false := by simp; omega
        have k1 : ¬ (65536 : Int) < (K : Int) := by omega
        have k2 : ¬ (n : Int) - (p : Int) - 8 < (K : Int) := by omega
        have hK1 : 1 ≤ K ∧ K ≤ 65536 ∧ p + 8 + K ≤ n := by omega
        have HBAD := Lib.hid hbad
        clear hbad
        have hsub : ∀ (lo hi : Nat) (il ih : Int), il = (lo : Int) → ih = (hi : Int) → lo ≤ hi → lo < c → hi ≤ c → ∀ W, (Instr.slice 33 (.slice (some ⟨b, off, none⟩) n c) (some (.int .i64 il)) (some (.int .i64 ih)) none).run Tryz.prog W = .ok (.slice (some ⟨b, off + lo, none⟩) (hi - lo) (c - lo)) W := fun lo hi il ih e1 e2 h1 h2 h3 W => by
          rw [e1, e2, run_subs (P := Tryz.prog) 33 5 1 Tryz.underlying33 hszU8 _ n c lo hi h1 h3 W, subAddr_at _ _ _ _ h2]
        have hs10 := hsub (p + 8) (p + 8 + K) ((p : Int) + 8) ((p : Int) + 8 + (K : Int)) (by omega) (by omega) (by omega) (by omega) (by omega)
        rw [show p + 8 + K - (p + 8) = K by omega] at hs10
        have hs11 := hsub p (p + 4) (p : Int) ((p : Int) + 4) rfl (by omega) (by omega) (by omega) (by omega)
        rw [show p + 4 - p = 4 by omega] at hs11
        have hs12 : ∀ W, (Instr.slice 33 (.slice (some ⟨b, off, none⟩) n c) (some (.int .i64 ((p : Int) + 4))) none none).run Tryz.prog W = .ok (.slice (some ⟨b, off + (p + 4), none⟩) (n - (p + 4)) (c - (p + 4))) W := fun W => by
          rw [show ((p : Int) + 4) = ((p + 4 : Nat) : Int) by omega, run_subFrom (P := Tryz.prog) 33 5 1 Tryz.underlying33 hszU8 _ n c (p + 4) (by omega) W, subAddr_at _ _ _ _ (by omega)]
        have hw3 : IntKind.i64.wrap ((p : Int) + 8) = (p : Int) + 8 := by simp [IntKind.bits, IntKind.wrap, IntKind.signed]; omega
        have hw4 : IntKind.i64.wrap ((p : Int) + 8 + (K : Int)) = (p : Int) + 8 + (K : Int) := by simp [IntKind.bits, IntKind.wrap, IntKind.signed]; omega
        have hw5 : IntKind.i64.wrap ((p : Int) + 4) = (p : Int) + 4 := by simp [IntKind.bits, IntKind.wrap, IntKind.signed]; omega
        obtain ⟨K2, hK2⟩ : ∃ K2, K2 = wordAt xs (p + 4) := ⟨_, rfl⟩
        obtain ⟨S1, hS1⟩ : ∃ S1, S1 = crcUpd 0 ((xs.drop p).take 4) := ⟨_, rfl⟩
        obtain ⟨S2, hS2⟩ : ∃ S2, S2 = crcUpd S1 (bodyAt xs p) := ⟨_, rfl⟩
        have HW2 : Hid (∀ W, Below w.heap.size w W → Calls Tryz.prog 101 #[.slice (some ⟨b, off + (p + 4), none⟩) (n - (p + 4)) (c - (p + 4))] W fun e w' => e = .returned (.int .u32 (K2 : Nat)) ∧ Below w.heap.size w w') := Lib.hid (fun W hW => by
          rw [hK2]
          exact (wordR_any xs b off n (p + 4) (c - (p + 4)) (by omega) HN.out W (HA.out (by omega) W hW)).mono (fun e w' h => ⟨h.1, below_then hW h.2 hW.size⟩))
        have HO2 : Hid (∀ W, Below w.heap.size w W → Calls Tryz.prog 103 #[.slice (some ⟨b, off + p, none⟩) 4 (c - p)] W fun e w' => e = .returned (.int .u32 (S1 : Nat)) ∧ Below w.heap.size w w') := Lib.hid (fun W hW => by
          rw [hS1]
          exact (of_any ((xs.drop p).take 4) _ 4 (c - p) (by have := HN.out; rw [List.length_take, List.length_drop]; omega) (by omega) W (rowAt (HA.out (by omega) W hW) p 4 (by have := HN.out; omega))).mono (fun e w' h => ⟨h.1, below_then hW h.2 hW.size⟩))
        have hS1l : S1 < 4294967296 := by rw [hS1]; exact crcUpd_lt _ _
        have HU2 : Hid (∀ W, Below w.heap.size w W → Calls Tryz.prog 102 #[.int .u32 (S1 : Nat), .slice (some ⟨b, off + (p + 8), none⟩) K (c - (p + 8))] W fun e w' => e = .returned (.int .u32 (S2 : Nat)) ∧ Below w.heap.size w w') := Lib.hid (fun W hW => by
          rw [hS2]
          have hrow := rowAt (HA.out (by omega) W hW) (p + 8) K (by have := HN.out; omega)
          have hbd : bodyAt xs p = (xs.drop (p + 8)).take K := by rw [bodyAt, ← HK.out]
          rw [hbd]
          exact (update_any S1 hS1l _ _ K (c - (p + 8)) (by have := HN.out; rw [List.length_take, List.length_drop]; omega) (by omega) W hrow).mono (fun e w' h => ⟨h.1, below_then hW h.2 hW.size⟩))
        have HE : Hid (nextE xs p = if K2 = S2 then 0 else 13) := Lib.hid (by
          unfold nextE
          rw [← HN.out, ← HK.out, if_neg hpn, if_neg h8, if_neg HBAD.out, ← hK2, ← hS1, ← hS2])
        have HK1 := Lib.hid hK1
        clear hsub hK2 hS1 hS2 hS1l hK1
        by_cases heq : K2 = S2
        · subst heq
          have hv : NextP xs b off n c p (.tuple #[.slice (some ⟨b, off + (p + 8), none⟩) K (c - (p + 8)), .int .i64 ((p : Int) + 8 + (K : Int)), .int .i64 0]) := .inr ⟨by rw [HE.out, if_pos rfl], by rw [← HK.out]; exact HK1.out.1, by rw [← HK.out]; exact HK1.out.2.1, by rw [← HK.out]; exact HK1.out.2.2, by rw [← HK.out]; rfl⟩
          have HV := Lib.hid hv
          clear hv
          go_upto_region 11 with (fail)
          go_region_held3 (fun W => Below w.heap.size w W) ((first | assumption | exact Below.drew (by assumption))) ((first | (go_at_call 101; refine (HW2.out _ (by first | assumption | exact Below.drew (by assumption))).mono ?_; rintro e w2 ⟨rfl, b2⟩) | (go_at_call 103; refine (HO2.out _ (by first | assumption | exact Below.drew (by assumption))).mono ?_; rintro e w3 ⟨rfl, b3⟩) | (go_at_call 102; refine (HU2.out _ (by first | assumption | exact Below.drew (by assumption))).mono ?_; rintro e w4 ⟨rfl, b4⟩)))
          go_wp2
          go_ret3
          exact ⟨⟨_, rfl, HV.out⟩, by assumption⟩
        · have hne : ((K2 : Int) == (S2 : Int)) = false := by simp; omega
          have hv : NextP xs b off n c p (.tuple #[.slice none 0 0, .int .i64 0, .int .i64 13]) := .inl (by
            rw [HE.out, if_neg heq]
            exact ⟨by decide, rfl⟩)
          have HV := Lib.hid hv
          clear hv heq
          go_upto_region 11 with (fail)
          go_region_held3 (fun W => Below w.heap.size w W) ((first | assumption | exact Below.drew (by assumption))) ((first | (go_at_call 101; refine (HW2.out _ (by first | assumption | exact Below.drew (by assumption))).mono ?_; rintro e w2 ⟨rfl, b2⟩) | (go_at_call 103; refine (HO2.out _ (by first | assumption | exact Below.drew (by assumption))).mono ?_; rintro e w3 ⟨rfl, b3⟩) | (go_at_call 102; refine (HU2.out _ (by first | assumption | exact Below.drew (by assumption))).mono ?_; rintro e w4 ⟨rfl, b4⟩)))
          go_wp2
          go_ret3
          exact ⟨⟨_, rfl, HV.out⟩, by assumption⟩

theorem next0_any (A : Option Addr) (c : Nat) (w : World) :
    Calls Tryz.prog 56 #[.slice A 0 c, .int .i64 0] w fun e w' => e = .returned (.tuple #[.slice none 0 0, .int .i64 0, .int .i64 12]) ∧ Below w.heap.size w w' := by
  go_enter Tryz.func56, Tryz.ntmps56
  go_wp2
  go_ret3
  exact ⟨rfl, Below.refl _ _⟩

/-- What Next answers: an error, or the body in a list of its own, and the place behind it. -/
def NextR (xs : Bs) (n p B : Nat) (v : Value) (w : World) : Prop :=
  (nextE xs p ≠ 0 ∧ v = .tuple #[.slice none 0 0, .int .i64 0, .int .i64 (nextE xs p : Nat)]) ∨
  (nextE xs p = 0 ∧ 0 < wordAt xs p ∧ wordAt xs p ≤ 65536 ∧ p + 8 + wordAt xs p ≤ n ∧ ∃ g c, v = .tuple #[.slice (some ⟨g, 0, none⟩) (wordAt xs p) c, .int .i64 (p + 8 + wordAt xs p : Nat), .int .i64 0] ∧
    w.ownsRow B 5 1 (.slice (some ⟨g, 0, none⟩) (wordAt xs p) c) (wordAt xs p) (cellsB (bodyAt xs p)))

theorem bodyAt_length (xs : Bs) (p : Nat) (h : p + 8 + wordAt xs p ≤ xs.length) : (bodyAt xs p).length = wordAt xs p := by
  unfold bodyAt
  rw [List.length_take, List.length_drop]
  omega

theorem Next0_any (A : Option Addr) (c : Nat) (w : World) :
    Calls Tryz.prog 24 #[.slice A 0 c, .int .i64 0] w fun e w' => e = .returned (.tuple #[.slice none 0 0, .int .i64 0, .int .i64 12]) ∧ Below w.heap.size w w' := by
  go_enter Tryz.func24, Tryz.ntmps24
  go_wp2_with (first | (go_at_call 56; refine (next0_any A c _).mono ?_; rintro e w1 ⟨rfl, b1⟩) | (go_at_call 57; refine (clone_any none 0 0 [] _ (Row.nil _ _) rfl (fun _ => rfl) (by decide)).mono ?_; rintro e w2 ⟨A', c', rfl, own2, b2, hz⟩))
  obtain rfl := hz.2 trivial
  obtain rfl : c' = 0 := by
    rcases own2.2 with ⟨h, _⟩ | ⟨g, c1, cur, h, _⟩ <;> simp_all
  go_ret3
  exact ⟨rfl, below_then b1 b2 b1.size⟩

set_option maxHeartbeats 2000000 in
theorem Next_any (xs : Bs) (b off n c p : Nat) (hn : n = xs.length) (hnc : n ≤ c) (hlen : n ≤ 1000000000) (hp : p ≤ n) (w : World) (hA : ∀ j (hj : j < xs.length), w.cell? ⟨b, off + j, none⟩ = some (.int .u8 xs[j].toNat)) :
    Calls Tryz.prog 24 #[.slice (some ⟨b, off, none⟩) n c, .int .i64 p] w fun e w' => (∃ v, e = .returned v ∧ NextR xs n p w.heap.size v w') ∧ Below w.heap.size w w' := by
  have HN := Lib.hid (next_any xs b off n c p hn hnc hlen hp w hA)
  have hcell : 0 < n → ∀ W, Below w.heap.size w W → ∀ j (hj : j < xs.length), W.cell? ⟨b, off + j, none⟩ = some (.int .u8 xs[j].toNat) := fun h0 W hW j hj => by
    rw [← hA j hj]
    exact hW.cell (p := ⟨b, off + j, none⟩) (World.block_lt_of_cell? w _ (hA j hj))
  have HA := Lib.hid hcell
  have HL := Lib.hid hn
  clear hA hcell hn
  go_enter Tryz.func24, Tryz.ntmps24
  go_upto_region 1 with (fail)
  go_upto_region 2 with (go_at_call 56; refine HN.out.mono ?_; rintro e w1 ⟨⟨v, rfl, ⟨he, rfl⟩ | ⟨he, hk0, hk1, hk2, rfl⟩⟩, b1⟩)
  · obtain ⟨E, hE⟩ : ∃ E, E = nextE xs p := ⟨_, rfl⟩
    have HE := Lib.hid hE
    rw [← hE] at he ⊢
    clear hE
    have HEE := Lib.hid he
    clear he
    go_wp2_with (go_at_call 57; refine (clone_any none 0 0 [] _ (Row.nil _ _) rfl (fun _ => rfl) (by decide)).mono ?_; rintro e w2 ⟨A', c', rfl, own2, b2, hz⟩)
    obtain rfl := hz.2 trivial
    obtain rfl : c' = 0 := by
      rcases own2.2 with ⟨h, _⟩ | ⟨g, c1, cur, h, _⟩ <;> simp_all
    go_ret3
    exact ⟨⟨_, rfl, .inl ⟨by rw [← HE.out]; exact HEE.out, by rw [← HE.out]; rfl⟩⟩, below_then b1 b2 b1.size⟩
  · have hrow := rowAt (HA.out (by omega) w1 b1) (p + 8) (wordAt xs p) (by have := HL.out; omega)
    rw [← bodyAt] at hrow
    have hbl := bodyAt_length xs p (by rw [← HL.out]; exact hk2)
    obtain ⟨K, hK⟩ : ∃ K, K = wordAt xs p := ⟨_, rfl⟩
    have hR : ∀ v w', NextR xs n p w.heap.size v w' ↔ ((nextE xs p ≠ 0 ∧ v = .tuple #[.slice none 0 0, .int .i64 0, .int .i64 (nextE xs p : Nat)]) ∨
  (nextE xs p = 0 ∧ 0 < K ∧ K ≤ 65536 ∧ p + 8 + K ≤ n ∧ ∃ g c, v = .tuple #[.slice (some ⟨g, 0, none⟩) K c, .int .i64 (p + 8 + K : Nat), .int .i64 0] ∧
    w'.ownsRow w.heap.size 5 1 (.slice (some ⟨g, 0, none⟩) K c) K (cellsB (bodyAt xs p)))) := fun v w' => by rw [hK]; exact Iff.rfl
    rw [← hK] at hk0 hk1 hk2 hbl ⊢
    have HC := Lib.hid (clone_any (some ⟨b, off + (p + 8), none⟩) K (c - (p + 8)) (bodyAt xs p) w1 hrow hbl.symm (fun h => by cases h) (by omega))
    have HR := Lib.hid hR
    have HE := Lib.hid he
    clear hR he hrow hbl hK
    go_wp2_with (go_at_call 57; refine HC.out.mono ?_; rintro e w2 ⟨A', c', rfl, own2, b2, hz⟩)
    have hA' : ∃ g, A' = some ⟨g, 0, none⟩ := by
      rcases own2.2 with ⟨h, h0⟩ | ⟨g, c1, cur, h, _⟩
      · omega
      · simp only [Value.slice.injEq] at h
        exact ⟨g, h.1⟩
    obtain ⟨g, rfl⟩ := hA'
    go_ret3
    exact ⟨⟨_, rfl, (HR.out _ _).2 (.inr ⟨HE.out, hk0, hk1, hk2, g, c', rfl, owns_mono own2 b1.size⟩)⟩, below_then b1 b2 b1.size⟩
end Go.Proofs.YtnieminnnkbneaaGreat
