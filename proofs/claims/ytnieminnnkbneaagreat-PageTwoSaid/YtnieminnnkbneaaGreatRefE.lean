/- Walk of treadleref5.Encode. -/
import Derived.Test.YtnieminnnkbneaaGreatRefW
import Derived.Test.YtnieminnnkbneaaGreatRef2
import Derived.Test.YtnieminnnkbneaaGreatRound
namespace Go.Proofs.YtnieminnnkbneaaGreat
open Go.RowKit

def RE (x : Bs × Int) (w : World) (e : Ending) (w' : World) : Prop :=
  ∃ A c, e = .returned (.tuple #[.slice A x.1.length c, .int .i64 x.2]) ∧ w'.ownsRow w.heap.size 5 1 (.slice A x.1.length c) x.1.length (cellsB x.1) ∧ Below w.heap.size w w'

set_option maxRecDepth 100000 in
set_option maxHeartbeats 4000000 in
theorem rdenc_any (v : Val) (w : World) (hv : i64v v) :
    Calls Tryz.prog 51 #[.agg (valCells v)] w (RE (datumEncode v) w) := by
  have hck := fun W => refDCheck_any v W
  by_cases hz : datumCheck v = 0
  · have he : datumEncode v = (datumBytes v, 0) := by unfold datumEncode; rw [if_pos hz]
    rw [he]
    rw [hz] at hck
    rcases datumCheck_zero hz with ⟨h0, h1, h2⟩ | ⟨h0, h1⟩ | ⟨h0, h1, h2⟩
    · obtain ⟨k, n, s⟩ := v
      simp only at h0 h1 h2
      subst h0 h1 h2
      have hb : datumBytes ⟨0, 0, emptyB⟩ = [0] := rfl
      have hby := fun W => rwbyte_any none 0 0 [] 0 W (Row.nil _ _) rfl (fun _ => rfl) (by decide)
      have e0 : ((0 : UInt8).toNat : Int) = 0 := rfl
      rw [e0] at hby
      rw [hb]
      unfold valCells at *
      have HCK := Lib.hid hck
      have HBY := Lib.hid hby
      clear hck hby hz he hb e0 hv
      go_enter Tryz.func51, Tryz.ntmps51
      have L1 := Loc.new w #[.int .i64 0, .int .i64 0, .string emptyB] 60
      have b1 := (Below.refl w.heap.size w).alloc (Nat.le_refl _) (.cells #[.int .i64 0, .int .i64 0, .string emptyB] 60)
      go_wp2_with fail
      refine (HCK.out _).mono ?_; rintro e w2 ⟨rfl, hb⟩
      have L2 := L1.below hb L1.lt
      have b2 := below_then b1 hb b1.size
      have l0 := L2.cell 0; have l1 := L2.cell 1; have l2 := L2.cell 2
      simp at l0 l1 l2
      clear L1 b1 hb
      go_wp2_with fail
      refine (HBY.out _).mono ?_; rintro e w3 ⟨A3, c3, rfl, o3, hb⟩
      have L3 := L2.below hb L2.lt
      have b3 := below_then b2 hb b2.size
      have l0' := L3.cell 0; have l1' := L3.cell 1; have l2' := L3.cell 2
      simp at l0' l1' l2'
      have hlt := L3.lt
      clear l0 l1 l2
      go_wp2
      go_ret2
      exact ⟨A3, c3, rfl, owns_mono' (owns_mono o3 b2.size) ((Below.refl w3.heap.size w3).alloc (Nat.le_refl _) _), b3.alloc b3.size _⟩
    · obtain ⟨k, n, s⟩ := v
      simp only at h0 h1
      subst h0 h1
      skip
      obtain ⟨zs, hzs⟩ : ∃ zs, zs = [1] ++ encInt n := ⟨_, rfl⟩
      have hb : datumBytes ⟨1, n, emptyB⟩ = zs := by rw [hzs]; rfl
      have hby := fun W => rwbyte_any none 0 0 [] 1 W (Row.nil _ _) rfl (fun _ => rfl) (by decide)
      have e0 : ((1 : UInt8).toNat : Int) = 1 := rfl
      rw [e0] at hby
      have hmo := fun A c W (h : Row W A (cellsB [1])) (hA : A = none → 1 = 0) => rwint_any A 1 c [1] n W h rfl hA (by decide) hv.1 hv.2
      rw [← hzs] at hmo
      rw [hb]
      unfold valCells at *
      have HCK := Lib.hid hck
      have HBY := Lib.hid hby
      have HMO := Lib.hid hmo
      clear hck hby hz he hb e0 hv hzs hmo
      go_enter Tryz.func51, Tryz.ntmps51
      have L1 := Loc.new w #[.int .i64 1, .int .i64 n, .string emptyB] 60
      have b1 := (Below.refl w.heap.size w).alloc (Nat.le_refl _) (.cells #[.int .i64 1, .int .i64 n, .string emptyB] 60)
      go_wp2_with fail
      refine (HCK.out _).mono ?_; rintro e w2 ⟨rfl, hb⟩
      have L2 := L1.below hb L1.lt
      have b2 := below_then b1 hb b1.size
      have l0 := L2.cell 0; have l1 := L2.cell 1; have l2 := L2.cell 2
      simp at l0 l1 l2
      clear L1 b1 hb
      go_wp2_with fail
      refine (HBY.out _).mono ?_; rintro e w3 ⟨A3, c3, rfl, o3, hb⟩
      simp only [List.nil_append, List.length_cons, List.length_nil] at o3 ⊢
      have L3 := L2.below hb L2.lt
      have b3 := below_then b2 hb b2.size
      have l0' := L3.cell 0; have l1' := L3.cell 1; have l2' := L3.cell 2
      simp at l0' l1' l2'
      have hlt := L3.lt
      have T4 := Loc.new w3 #[.slice A3 1 c3, .int .i64 0] 104
      have L4 := L3.alloc (.cells #[.slice A3 1 c3, .int .i64 0] 104)
      have b4 := b3.alloc b3.size (.cells #[.slice A3 1 c3, .int .i64 0] 104)
      have o4 := owns_mono' o3 ((Below.refl w3.heap.size w3).alloc (Nat.le_refl _) (.cells #[.slice A3 1 c3, .int .i64 0] 104))
      clear l0 l1 l2 L2 L3 hb
      go_wp2_with fail
      refine (HMO.out A3 c3 _ (Row.of_owns o4) (owns_none o4)).mono ?_; rintro e w5 ⟨A5, c5, rfl, o5, hb⟩
      have T5 := T4.below hb T4.lt
      have L5 := L4.below hb L4.lt
      have b5 := below_then b4 hb b4.size
      have t0 := T5.cell 0; have t1 := T5.cell 1; have f0 := T5.free 0; have f1 := T5.free 1
      have m0 := L5.cell 0; have m1 := L5.cell 1; have m2 := L5.cell 2
      simp at t0 t1 m0 m1 m2
      have hsz : w.heap.size ≤ w3.heap.size := Nat.le_of_lt hlt
      have o6 := owns_setCell (a := ⟨w3.heap.size, 0, none⟩) (owns_mono o5 b4.size) (owns_ne o5 T5 (by decide)) (.slice A5 zs.length c5)
      have T6 := T5.set 0 (.slice A5 zs.length c5)
      have o7 := owns_setCell (a := ⟨w3.heap.size, 1, none⟩) o6 (owns_ne o6 T6 (by decide)) (.int .i64 0)
      have b7 := (b5.setCell (p := ⟨w3.heap.size, 0, none⟩) hsz (.slice A5 zs.length c5)).setCell (p := ⟨w3.heap.size, 1, none⟩) hsz (.int .i64 0)
      have hne : ¬ w3.heap.size = w.heap.size := by omega
      clear T4 L4 hb l0' l1' l2' o5 o6
      go_wp2
      go_ret2
      exact ⟨A5, c5, rfl, o7, b7⟩
    · obtain ⟨k, n, s⟩ := v
      simp only at h0 h1
      subst h0 h1
      skip
      obtain ⟨zs, hzs⟩ : ∃ zs, zs = [2] ++ encText s.data.toList := ⟨_, rfl⟩
      have hb : datumBytes ⟨2, 0, s⟩ = zs := by rw [hzs]; rfl
      have hby := fun W => rwbyte_any none 0 0 [] 2 W (Row.nil _ _) rfl (fun _ => rfl) (by decide)
      have e0 : ((2 : UInt8).toNat : Int) = 2 := rfl
      rw [e0] at hby
      have hmo := fun A c W (h : Row W A (cellsB [2])) (hA : A = none → 1 = 0) => rwtext_any A 1 c [2] s W h rfl hA (by have : s.size ≤ 256 := h2; omega)
      rw [← hzs] at hmo
      rw [hb]
      unfold valCells at *
      have HCK := Lib.hid hck
      have HBY := Lib.hid hby
      have HMO := Lib.hid hmo
      clear hck hby hz he hb e0 hv hzs hmo
      go_enter Tryz.func51, Tryz.ntmps51
      have L1 := Loc.new w #[.int .i64 2, .int .i64 0, .string s] 60
      have b1 := (Below.refl w.heap.size w).alloc (Nat.le_refl _) (.cells #[.int .i64 2, .int .i64 0, .string s] 60)
      go_wp2_with fail
      refine (HCK.out _).mono ?_; rintro e w2 ⟨rfl, hb⟩
      have L2 := L1.below hb L1.lt
      have b2 := below_then b1 hb b1.size
      have l0 := L2.cell 0; have l1 := L2.cell 1; have l2 := L2.cell 2
      simp at l0 l1 l2
      clear L1 b1 hb
      go_wp2_with fail
      refine (HBY.out _).mono ?_; rintro e w3 ⟨A3, c3, rfl, o3, hb⟩
      simp only [List.nil_append, List.length_cons, List.length_nil] at o3 ⊢
      have L3 := L2.below hb L2.lt
      have b3 := below_then b2 hb b2.size
      have l0' := L3.cell 0; have l1' := L3.cell 1; have l2' := L3.cell 2
      simp at l0' l1' l2'
      have hlt := L3.lt
      have T4 := Loc.new w3 #[.slice A3 1 c3, .int .i64 0] 104
      have L4 := L3.alloc (.cells #[.slice A3 1 c3, .int .i64 0] 104)
      have b4 := b3.alloc b3.size (.cells #[.slice A3 1 c3, .int .i64 0] 104)
      have o4 := owns_mono' o3 ((Below.refl w3.heap.size w3).alloc (Nat.le_refl _) (.cells #[.slice A3 1 c3, .int .i64 0] 104))
      clear l0 l1 l2 L2 L3 hb
      go_wp2_with fail
      refine (HMO.out A3 c3 _ (Row.of_owns o4) (owns_none o4)).mono ?_; rintro e w5 ⟨A5, c5, rfl, o5, hb⟩
      have T5 := T4.below hb T4.lt
      have L5 := L4.below hb L4.lt
      have b5 := below_then b4 hb b4.size
      have t0 := T5.cell 0; have t1 := T5.cell 1; have f0 := T5.free 0; have f1 := T5.free 1
      have m0 := L5.cell 0; have m1 := L5.cell 1; have m2 := L5.cell 2
      simp at t0 t1 m0 m1 m2
      have hsz : w.heap.size ≤ w3.heap.size := Nat.le_of_lt hlt
      have o6 := owns_setCell (a := ⟨w3.heap.size, 0, none⟩) (owns_mono o5 b4.size) (owns_ne o5 T5 (by decide)) (.slice A5 zs.length c5)
      have T6 := T5.set 0 (.slice A5 zs.length c5)
      have o7 := owns_setCell (a := ⟨w3.heap.size, 1, none⟩) o6 (owns_ne o6 T6 (by decide)) (.int .i64 0)
      have b7 := (b5.setCell (p := ⟨w3.heap.size, 0, none⟩) hsz (.slice A5 zs.length c5)).setCell (p := ⟨w3.heap.size, 1, none⟩) hsz (.int .i64 0)
      have hne : ¬ w3.heap.size = w.heap.size := by omega
      clear T4 L4 hb l0' l1' l2' o5 o6
      go_wp2
      go_ret2
      exact ⟨A5, c5, rfl, o7, b7⟩
  · have he : datumEncode v = ([], datumCheck v) := by unfold datumEncode; rw [if_neg hz]
    rw [he]
    obtain ⟨E, hE⟩ : ∃ E, E = datumCheck v := ⟨_, rfl⟩
    rw [← hE] at hz hck ⊢
    have hE' : (E != 0) = true := by simpa using hz
    obtain ⟨k, n, s⟩ := v
    unfold valCells at *
    have HCK := Lib.hid hck
    clear hck hE hz he hv
    go_enter Tryz.func51, Tryz.ntmps51
    have b1 := (Below.refl w.heap.size w).alloc (Nat.le_refl _) (.cells #[.int .i64 k, .int .i64 n, .string s] 60)
    go_wp2_with fail
    refine (HCK.out _).mono ?_; rintro e w2 ⟨rfl, hb⟩
    go_wp2
    go_ret2
    exact ⟨none, 0, rfl, World.ownsRow_nil _ _ _ _, below_then b1 hb b1.size⟩
end Go.Proofs.YtnieminnnkbneaaGreat
