/- Walk of treadlelaw12.known. -/
import Derived.Test.YtnmcdifkknphgaaBs
import Derived.Test.YtnmcdifkknphgaaBe
import Derived.Lib.SlBytesConst
namespace Go.Proofs.Ytnmcdifkknphgaa
open Go.RowKit

def knownT : Txn := ⟨2, .zero, ⟨#[112]⟩, [⟨1, 7, ⟨#[]⟩⟩]⟩
def knownBat : Bat := ⟨1, [knownT]⟩
def knownBB : Bs := [1, 1, 2, 1, 112, 1, 2, 1, 14]
theorem kn_check : batCheck knownBat = 0 := by kernel_rfl
theorem kn_encode : batEncode knownBat = (knownBB, 0) := by kernel_rfl
theorem kn_decode : batDecode knownBB = (knownBat, 0) := by kernel_rfl
theorem kn_none : batCheck ⟨0, []⟩ = 1 := by kernel_rfl
theorem kn_shape : knownT.shape := .inr (.inr ⟨rfl, rfl, by decide, fun v hv => by
  simp only [knownT, List.mem_singleton] at hv
  subst hv
  exact ⟨by kernel_rfl, by unfold i64v; decide⟩⟩)

def knownX (k : Nat) : TxnC := ⟨knownT, some ⟨k, 0, none⟩, 1, none, 0⟩

/-- The known batch in memory. -/
structure KN (w W : World) : Prop where
  v : Loc W w.heap.size #[.int .i64 1, .int .i64 7, .string ⟨#[]⟩] 57
  t : Loc W (w.heap.size + 1) #[.int .i64 2, .string ⟨#[]⟩, .int .i64 0, .slice none 0 0, .string ⟨#[112]⟩, .slice (some ⟨w.heap.size, 0, none⟩) 1 1] 30
  p : Loc W (w.heap.size + 2) #[.int .i64 1, .slice (some ⟨w.heap.size + 1, 0, none⟩) 1 1] 24
  b : Below w.heap.size w W
namespace KN
variable {w W V : World}
theorem below (h : KN w W) (hb : Below W.heap.size W V) : KN w V := ⟨h.v.below hb h.v.lt, h.t.below hb h.t.lt, h.p.below hb h.p.lt, below_then h.b hb h.b.size⟩
theorem alloc (h : KN w W) (o : Obj) : KN w (W.alloc o) := h.below ((Below.refl _ _).alloc (Nat.le_refl _) o)
theorem row (h : KN w W) : Row W (some ⟨w.heap.size + 1, 0, none⟩) (txnsCells [knownX w.heap.size]) := Row.of_loc h.t
theorem ok (h : KN w W) : ∀ x ∈ [knownX w.heap.size], x.ok W := by
  intro x hx
  rw [List.mem_singleton] at hx
  subst hx
  exact ⟨Row.of_loc h.v, (fun h => by cases h), Row.nil _ _, fun _ => rfl⟩
end KN

theorem kn_fit (k : Nat) : ∀ x ∈ [knownX k], x.fit := by
  intro x hx
  rw [List.mem_singleton] at hx
  subst hx
  exact shape_fit kn_shape

theorem kn_ck (w W : World) (h : KN w W) : Calls Try.prog 11 #[.agg #[.int .i64 1, .slice (some ⟨w.heap.size + 1, 0, none⟩) 1 1]] W fun e w' => e = .returned (.int .i64 0) ∧ Below W.heap.size W w' := by
  have := bcheck_any 1 [knownX w.heap.size] (some ⟨w.heap.size + 1, 0, none⟩) 1 W h.row h.ok (kn_fit _) (by simp) (by unfold i64R; decide)
  rw [show (batCheck ⟨1, [knownX w.heap.size].map (·.t)⟩) = 0 from kn_check] at this
  exact this

theorem kn_enc (w W : World) (h : KN w W) : Calls Try.prog 15 #[.agg #[.int .i64 1, .slice (some ⟨w.heap.size + 1, 0, none⟩) 1 1]] W fun e w' => ∃ A' c', e = .returned (.tuple #[.slice A' 9 c', .int .i64 0]) ∧
    w'.ownsRow W.heap.size 5 1 (.slice A' 9 c') 9 (cellsB knownBB) ∧ Below W.heap.size W w' := by
  have := bencode_any 1 [knownX w.heap.size] (some ⟨w.heap.size + 1, 0, none⟩) 1 W h.row h.ok (kn_fit _) (by
    intro x hx v hv
    rw [List.mem_singleton] at hx
    subst hx
    exact (kn_shape.num).2 v hv) (by simp) (by unfold i64R; decide)
  rw [show (batEncode ⟨1, [knownX w.heap.size].map (·.t)⟩) = (knownBB, 0) from kn_encode] at this
  exact this

theorem kn_nil (w : World) : Calls Try.prog 11 #[.agg #[.int .i64 0, .slice none 0 0]] w fun e w' => e = .returned (.int .i64 1) ∧ Below w.heap.size w w' := by
  have := bcheck_any 0 [] none 0 w (Row.nil _ _) (fun x hx => by cases hx) (fun x hx => by cases hx) (by decide) (by unfold i64R; decide)
  rw [show (batCheck ⟨0, ([] : List TxnC).map (·.t)⟩) = 1 from kn_none] at this
  exact this

set_option maxRecDepth 100000 in
set_option maxHeartbeats 4000000 in
theorem bknown_any (w : World) : Calls Try.prog 14 #[] w fun e w' => e = .returned (.bool true) ∧ Below w.heap.size w w' := by
  have hcv := fun (w : World) (C : Array Value) (n c : Nat) => Lib.run_convert_bytes_const (P := Try.prog) w 39 5 C n c Try.underlying39 Try.underlying5
  go_enter Try.func14, Try.ntmps14
  have K0 : KN w (((w.alloc (.cells #[.int .i64 1, .int .i64 7, .string ⟨#[]⟩] 57)).alloc (.cells #[.int .i64 2, .string ⟨#[]⟩, .int .i64 0, .slice none 0 0, .string ⟨#[112]⟩, .slice (some ⟨w.heap.size, 0, none⟩) 1 1] 30)).alloc (.cells #[.int .i64 1, .slice (some ⟨w.heap.size + 1, 0, none⟩) 1 1] 24)) := by
    have h1 := Loc.new (w.alloc (.cells #[.int .i64 1, .int .i64 7, .string ⟨#[]⟩] 57)) #[.int .i64 2, .string ⟨#[]⟩, .int .i64 0, .slice none 0 0, .string ⟨#[112]⟩, .slice (some ⟨w.heap.size, 0, none⟩) 1 1] 30
    have h2 := Loc.new ((w.alloc (.cells #[.int .i64 1, .int .i64 7, .string ⟨#[]⟩] 57)).alloc (.cells #[.int .i64 2, .string ⟨#[]⟩, .int .i64 0, .slice none 0 0, .string ⟨#[112]⟩, .slice (some ⟨w.heap.size, 0, none⟩) 1 1] 30)) #[.int .i64 1, .slice (some ⟨w.heap.size + 1, 0, none⟩) 1 1] 24
    simp only [World.size_alloc] at h1 h2
    exact ⟨((Loc.new _ _ _).alloc _).alloc _, h1.alloc _, h2, (((Below.refl w.heap.size w).alloc (Nat.le_refl _) _).alloc (by simp) _).alloc (by simp; omega) _⟩
  go_wp2_with fail
  refine (kn_enc w _ K0).mono ?_; rintro e w1 ⟨A', c', rfl, hown, hb⟩
  have K1 := K0.below hb
  clear K0 hb
  go_wp2_with fail
  obtain ⟨b9, hb9⟩ : ∃ b9 : Array Value, b9 = #[.int .u8 1, .int .u8 1, .int .u8 2, .int .u8 1, .int .u8 112, .int .u8 1, .int .u8 2, .int .u8 1, .int .u8 14] := ⟨_, rfl⟩
  simp only [← hb9]
  have hr9 : ∀ W : World, Row (W.alloc (.cells b9 5 (9, 10))) (some ⟨W.heap.size, 0, none⟩) (cellsB knownBB) := fun W => by
    refine .inr ⟨W.heap.size, 0, rfl, fun j hj => ?_⟩
    rw [blk_cell (heap_alloc_new _ _), hb9]
    simp
    rfl
  have HR9 := Lib.hid hr9
  have HB9 := Lib.hid hb9
  clear hb9
  have K2 := K1.alloc (.cells b9 5 (9, 10))
  have o2 := owns_mono' hown ((Below.refl w1.heap.size w1).alloc (Nat.le_refl _) (.cells b9 5 (9, 10)))
  clear hr9 K1 hown
  refine (bdecode_any (some ⟨w1.heap.size, 0, none⟩) 9 9 knownBB _ (HR9.out w1) rfl (fun h => by cases h) (by decide)).mono ?_; rintro e w2 ⟨l, L, cap, hl, rfl, own2, hx2, hb⟩
  rw [kn_decode] at hl ⊢
  simp only [knownBat] at hl ⊢
  have hl1 : l.length = 1 := by have := congrArg List.length hl; simpa using this
  rw [hl1] at own2 ⊢
  have K3 := K2.below hb
  have o3 := owns_mono' o2 hb
  clear K2 o2 hb
  have hcv2 := hcv (w2.alloc (.cells #[.int .i64 1, .slice L 1 cap] 24))
  simp only [World.size_alloc] at hcv2
  have lk := K3.p.lt
  go_wp2_with fail
  simp only [← HB9.out]
  have hba : Below w2.heap.size w2 ((w2.alloc (.cells #[.int .i64 1, .slice L 1 cap] 24)).alloc (.cells b9 5 (9, 10))) := ((Below.refl w2.heap.size w2).alloc (Nat.le_refl _) _).alloc (by simp) _
  have K4 := K3.below hba
  have D4 := (Loc.new w2 #[.int .i64 1, .slice L 1 cap] 24).alloc (.cells b9 5 (9, 10))
  have o4 := owns_mono' o3 hba
  have own4 := owns_mono' own2 hba
  have hx4 := fun x hx => (hx2 x hx).below hba
  have hr4 := HR9.out (w2.alloc (.cells #[.int .i64 1, .slice L 1 cap] 24))
  simp only [World.size_alloc] at hr4
  clear K3 o3 own2 hx2 hba hcv hcv2 lk
  refine (same_any A' (some ⟨w2.heap.size + 1, 0, none⟩) 9 9 c' 9 knownBB knownBB _ (Row.of_owns o4) hr4 rfl rfl (by decide) (by decide)).mono ?_; rintro e w5 ⟨rfl, hb⟩
  have K5 := K4.below hb
  have D5 := D4.below hb D4.lt
  have own5 := owns_mono' own4 hb
  have hx5 := fun x hx => (hx4 x hx).below hb
  have k0 := K5.p.cell 0; have k1 := K5.p.cell 1; have d0 := D5.cell 0; have d1 := D5.cell 1
  simp at k0 k1 d0 d1
  clear K4 D4 o4 own4 hx4 hr4 hb
  have hsm := brefSame_any 1 1 [knownX w.heap.size] l (some ⟨w.heap.size + 1, 0, none⟩) L 1 cap w5 K5.row (Row.of_owns own5) (by simp) (by omega) K5.ok (fun x hx => (hx5 x hx).ok) (kn_fit _) (fun x hx => shape_fit (by
    have h1 : x.t ∈ l.map (·.t) := List.mem_map_of_mem hx
    rw [hl, List.mem_singleton] at h1
    rw [h1]
    exact kn_shape))
  rw [hl, hl1] at hsm
  have HSM := Lib.hid hsm
  clear hsm
  rw [decide_eq_true rfl]
  go_wp2_with fail
  refine HSM.out.mono ?_; rintro e w6 ⟨⟨res, rfl, hres⟩, hb⟩
  obtain rfl : res = true := hres.2 ⟨rfl, rfl⟩
  have K6 := K5.below hb
  have k0 := K6.p.cell 0; have k1 := K6.p.cell 1
  simp at k0 k1
  clear hres HSM K5 D5 own5 hx5 d0 d1 hb
  go_wp2_with fail
  refine (kn_ck w _ K6).mono ?_; rintro e w7 ⟨rfl, hb⟩
  have K7 := K6.below hb
  clear K6 hb k0 k1
  go_wp2_with fail
  refine (kn_nil _).mono ?_; rintro e w8 ⟨rfl, hb⟩
  go_wp2
  go_ret
  exact ⟨rfl, below_then K7.b hb K7.b.size⟩
end Go.Proofs.Ytnmcdifkknphgaa
