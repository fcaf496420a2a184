/- Walk of frame.headOf. -/
import Derived.Test.YtnieminnnkbneaaGreatFrm
namespace Go.Proofs.YtnieminnnkbneaaGreat
open Go.RowKit

/-- The head of a body: its length and the sum of both. -/
def headB (xs : Bs) : Bs := le4 xs.length ++ le4 (crcUpd (crcUpd 0 (le4 xs.length)) xs)
theorem headB_length (xs : Bs) : (headB xs).length = 8 := rfl

theorem Loc.four {w : World} {b : Nat} {c : Array Value} {t : TypeId} (h : Loc w b c t) (off v : Nat) :
    Loc (fourW w b off v) b ((((c.setIfInBounds off (u8v (UInt8.ofNat v))).setIfInBounds (off + 1) (u8v (UInt8.ofNat (v / 256)))).setIfInBounds (off + 2) (u8v (UInt8.ofNat (v / 65536)))).setIfInBounds (off + 3) (u8v (UInt8.ofNat (v / 16777216)))) t :=
  (((h.set _ _).set _ _).set _ _).set _ _
theorem Loc.four' {w : World} {b b' : Nat} {c : Array Value} {t : TypeId} (h : Loc w b c t) (hne : b ≠ b') (off v : Nat) : Loc (fourW w b' off v) b c t :=
  (((h.other (a := ⟨b', off, none⟩) hne _).other (a := ⟨b', off + 1, none⟩) hne _).other (a := ⟨b', off + 2, none⟩) hne _).other (a := ⟨b', off + 3, none⟩) hne _
theorem four_below {B : Nat} {a w : World} {b : Nat} (h : Below B a w) (hb : B ≤ b) (off v : Nat) : Below B a (fourW w b off v) :=
  (((h.setCell hb _).setCell hb _).setCell hb _).setCell hb _
theorem four_size (w : World) (b off v : Nat) : (fourW w b off v).heap.size = w.heap.size := by simp [fourW, World.setCell]
theorem infHead : (Tryz.prog.info? 196).map (·.size) = some 8 := by kernel_rfl

set_option maxHeartbeats 2000000 in
theorem headOf_any (xs : Bs) (A : Option Addr) (n c : Nat) (hn : n = xs.length) (hln : n ≤ 65536) (w : World) (hr : Row w A (cellsB xs)) :
    Calls Tryz.prog 113 #[.slice A n c] w fun e w' => e = .returned (.agg (cellsB (headB xs)).toArray) ∧ Below w.heap.size w w' := by
  have L0 := Loc.new w #[.int .u8 0, .int .u8 0, .int .u8 0, .int .u8 0, .int .u8 0, .int .u8 0, .int .u8 0, .int .u8 0] 196
  have L1 := Loc.new (w.alloc (.cells #[.int .u8 0, .int .u8 0, .int .u8 0, .int .u8 0, .int .u8 0, .int .u8 0, .int .u8 0, .int .u8 0] 196)) #[.int .u8 0, .int .u8 0, .int .u8 0, .int .u8 0, .int .u8 0, .int .u8 0, .int .u8 0, .int .u8 0] 196
  have bw0 := (Below.refl w.heap.size w).alloc (Nat.le_refl _) (.cells #[.int .u8 0, .int .u8 0, .int .u8 0, .int .u8 0, .int .u8 0, .int .u8 0, .int .u8 0, .int .u8 0] 196)
  have bw1 := Below.alloc' (by simp) (.cells #[.int .u8 0, .int .u8 0, .int .u8 0, .int .u8 0, .int .u8 0, .int .u8 0, .int .u8 0, .int .u8 0] 196) bw0
  have hu := u32wrap n (by omega)
  have L00 := L0.alloc (.cells #[.int .u8 0, .int .u8 0, .int .u8 0, .int .u8 0, .int .u8 0, .int .u8 0, .int .u8 0, .int .u8 0] 196)
  rw [World.size_alloc] at L1
  have HN := Lib.hid hn
  have HR := Lib.hid hr
  clear hn hr
  go_enter Tryz.func113, Tryz.ntmps113
  go_upto_region 2 with (fail)
  obtain ⟨W1, hW1⟩ : ∃ W1, W1 = ((w.alloc (.cells #[.int .u8 0, .int .u8 0, .int .u8 0, .int .u8 0, .int .u8 0, .int .u8 0, .int .u8 0, .int .u8 0] 196)).alloc (.cells #[.int .u8 0, .int .u8 0, .int .u8 0, .int .u8 0, .int .u8 0, .int .u8 0, .int .u8 0, .int .u8 0] 196)) := ⟨_, rfl⟩
  rw [← hW1] at L1 L00 bw1
  try rw [← hW1]
  clear hW1
  have hsz := L1.lt
  have H4 := four_any (w.heap.size + 1) 0 8 n (by omega) W1 (fun j hj => by rw [L1.cell]; rcases (by omega : j = 0 ∨ j = 1 ∨ j = 2 ∨ j = 3) with rfl | rfl | rfl | rfl <;> exact ⟨0, rfl⟩) (fun j => L1.free _)
  have L2 := L1.four 0 n
  have L02 := L00.four' (b' := w.heap.size + 1) (by omega) 0 n
  have b2 := four_below (b := w.heap.size + 1) bw1 (by omega) 0 n
  have hs2 := four_size W1 (w.heap.size + 1) 0 n
  have HC4 := Lib.hid H4
  clear H4 L0 bw0 bw1 L1 L00
  go_upto_region 3 with (go_at_call 136; refine HC4.out.mono ?_; rintro e w2 ⟨rfl, rfl⟩)
  obtain ⟨w2, hw2⟩ : ∃ w2, w2 = fourW W1 (w.heap.size + 1) 0 n := ⟨_, rfl⟩
  rw [← hw2] at L2 L02 b2 hs2 ⊢
  clear hw2
  have HOf : ∀ W, Loc W (w.heap.size + 1) (cellsB (le4 n ++ [0, 0, 0, 0])).toArray 196 → Calls Tryz.prog 103 #[.slice (some ⟨w.heap.size + 1, 0, none⟩) 4 8] W fun e w' => e = .returned (.int .u32 (crcUpd 0 (le4 n) : Nat)) ∧ Below W.heap.size W w' := fun W hW =>
    of_any (le4 n) (some ⟨w.heap.size + 1, 0, none⟩) 4 8 rfl (by decide) W (by
      refine .inr ⟨_, 0, rfl, fun j hj => ?_⟩
      have hj4 : j < 4 := hj
      rw [hW.cell]
      rcases (by omega : j = 0 ∨ j = 1 ∨ j = 2 ∨ j = 3) with rfl | rfl | rfl | rfl <;> rfl)
  obtain ⟨s1, hs1⟩ : ∃ s1, s1 = crcUpd 0 (le4 n) := ⟨_, rfl⟩
  have hl1 : s1 < 4294967296 := by rw [hs1]; exact crcUpd_lt _ _
  rw [← hs1] at HOf
  obtain ⟨s2, hs2'⟩ : ∃ s2, s2 = crcUpd s1 xs := ⟨_, rfl⟩
  have hl2 : s2 < 4294967296 := by rw [hs2']; exact crcUpd_lt _ _
  have HS : Hid (headB xs = le4 n ++ le4 s2) := Lib.hid (by rw [headB, ← HN.out, ← hs1, ← hs2'])
  have HUp : ∀ W, Below w.heap.size w W → Calls Tryz.prog 102 #[.int .u32 s1, .slice A n c] W fun e w' => e = .returned (.int .u32 s2) ∧ Below W.heap.size W w' := fun W hW => by
    rw [hs2']
    exact update_any s1 hl1 xs A n c HN.out (by omega) W (HR.out.of_below hW (Nat.le_refl _))
  have H4 : ∀ W, Loc W (w.heap.size + 1) (cellsB (le4 n ++ [0, 0, 0, 0])).toArray 196 → Calls Tryz.prog 136 #[.slice (some ⟨w.heap.size + 1, 4, none⟩) 4 4, .int .u32 s2] W fun e w' => e = .returned (.tuple #[]) ∧ w' = fourW W (w.heap.size + 1) 4 s2 := fun W hW =>
    four_any (w.heap.size + 1) 4 4 s2 hl2 W (fun j hj => by rw [hW.cell]; rcases (by omega : j = 0 ∨ j = 1 ∨ j = 2 ∨ j = 3) with rfl | rfl | rfl | rfl <;> exact ⟨0, rfl⟩) (fun j => hW.free _)
  have L3 : Loc w2 (w.heap.size + 1) (cellsB (le4 n ++ [0, 0, 0, 0])).toArray 196 := L2
  have HO := Lib.hid HOf
  have HU := Lib.hid HUp
  have HF := Lib.hid H4
  clear HOf HUp H4 hs1 hs2' L2
  go_region_held3 (fun _ => True) (trivial) ((first | (go_at_call 103; refine (HO.out _ (Loc.drew L3)).mono ?_; rintro e w3 ⟨rfl, b3⟩) | (go_at_call 102; refine (HU.out _ (below_then b2.drew b3 b2.size)).mono ?_; rintro e w4 ⟨rfl, b4⟩) | (go_at_call 136; refine (HF.out _ (Loc.below (Loc.below (Loc.drew L3) b3 L3.lt) b4 (Nat.lt_of_lt_of_le L3.lt b3.size))).mono ?_; rintro e w5 ⟨rfl, rfl⟩)))
  obtain ⟨w5, hw5⟩ : ∃ w5, w5 = fourW w4 (w.heap.size + 1) 4 s2 := ⟨_, rfl⟩
  have K4 := Loc.below (Loc.below (Loc.drew L02) b3 L02.lt) b4 (Nat.lt_of_lt_of_le L02.lt b3.size)
  have K5 := K4.four' (b' := w.heap.size + 1) (by omega) 4 s2
  have L4 := Loc.below (Loc.below (Loc.drew L3) b3 L3.lt) b4 (Nat.lt_of_lt_of_le L3.lt b3.size)
  have L5 : Loc (fourW w4 (w.heap.size + 1) 4 s2) (w.heap.size + 1) (cellsB (headB xs)).toArray 196 := by rw [HS.out]; exact L4.four 4 s2
  have b5 := four_below (b := w.heap.size + 1) (below_then (below_then b2.drew b3 b2.size) b4 (Nat.le_trans b2.size b3.size)) (by omega) 4 s2
  rw [← hw5] at K5 L5 b5 ⊢
  clear hw5 K4 L4 b3 b4 L02 L3 b2 hs2
  obtain ⟨C, hC⟩ : ∃ C, C = (cellsB (headB xs)).toArray := ⟨_, rfl⟩
  rw [← hC] at L5
  have hCs : C.size = 8 := by rw [hC]; rfl
  have hCo : ∀ i (h : i < C.size), C[i].oneCell' = true := by
    subst hC
    exact fun i h => cellsB_one _ _ (by simpa using List.getElem_mem (l := cellsB (headB xs)) (by simpa using h))
  have HC := Lib.hid hC
  clear hC
  go_upto_region 4 with (fail)
  refine wp_absA (fun A => A.tmps.getD 3 undef = .pointer (some ⟨w.heap.size + 1, 0, none⟩) ∧ A.tmps.getD 2 undef = .pointer (some ⟨w.heap.size, 0, none⟩) ∧ A.tmps.size = 16 ∧ A.defers = []) ⟨rfl, rfl, rfl, rfl⟩ ?_
  rintro act ⟨e1, e0, esz, edf⟩
  refine wp_region_lit ?_
  refine wpList_load_row rfl 196 (.tmp 3) rfl _ (by rw [eval_tmp]; exact e1) 196 _ (0, 0) _ L5 Tryz.underlying196 rfl (by rw [hCs]; exact infHead) ?_
  refine wpList_store_row rfl 196 (.tmp 2) (.tmp 15) rfl w.heap.size C (by rw [eval_tmp, getD_put_other _ _ _ _ (by decide)]; exact e0) (by rw [eval_tmp, getD_put_same _ _ _ (by omega)]) 196 _ K5 (by rw [hCs]; exact infHead) (by rw [hCs]; rfl) (all_of_one hCo) ?_
  refine wpList_nil ?_
  rename_i hK
  refine hK _ _ (wp_ret ?_)
  have hrow := setRow_heap w5 w.heap.size _ C 196 _ K5
  refine bodyPost_ret (v := .agg C) (results_cell_row rfl _ _ w.heap.size 196 C (0, 0) _ ?_ hrow Tryz.underlying196 rfl (by rw [hCs]; exact infHead)) edf ⟨by rw [HC.out], ?_⟩
  · show ((act.put (some 15) (.agg C)).put none _).tmps.getD 2 undef = _
    exact (getD_put_other _ _ _ _ (by decide)).trans e0
  · exact ⟨b5.os, b5.tape, b5.output, by rw [size_setRow]; exact b5.size, fun k hk => by rw [setRow_other w5 _ k _ (by omega)]; exact b5.block k hk⟩
end Go.Proofs.YtnieminnnkbneaaGreat
