/- Walks of slices.Grow, slices.Concat, slices.Clone over bytes. -/
import Derived.Test.YtnieminnnkbneaaGreatFrh
import Derived.Lib.AppendZerosOnto
namespace Go.Proofs.YtnieminnnkbneaaGreat
open Go.RowKit

theorem zeros_size (n : Nat) : (Builtin.zeroCells (Value.int .u8 0).cells n).size = n := by
  simp [Builtin.zeroCells, Value.cells]

set_option maxHeartbeats 1000000 in
theorem grow_any (k : Nat) (h0 : 0 < k) (hk : k ≤ 100000000) (w : World) :
    Calls Tryz.prog 137 #[.slice none 0 0, .int .i64 k] w fun e w' => ∃ g c, e = .returned (.slice (some ⟨g, 0, none⟩) 0 c) ∧ w'.ownsRow w.heap.size 5 1 (.slice (some ⟨g, 0, none⟩) 0 c) 0 [] ∧ Below w.heap.size w w' := by
  obtain ⟨i, hi, hz, hsize, hby⟩ := info_parts infoU8
  have hr : ∀ W : World, ∃ C c, (Builtin.append_ #[33, 3] 33 #[.slice none 0 0, .int .i64 k]).run Tryz.prog W = .ok (.slice (some ⟨W.heap.size, 0, none⟩) k c) (W.drew.alloc (.cells C 5)) ∧ C.size = c ∧ k ≤ c ∧ c ≤ maxLen := by
    intro W
    have hr := Lib.run_append_grow_zeros (P := Tryz.prog) W 33 3 33 5 i (.int .u8 0) .i64 .i64 Tryz.underlying33 Tryz.underlying3 hi hz none 0 0 [] (by
      rw [hsize]; rfl) k h0 (by omega) (by omega) (by omega) (by rw [hby]; omega) (by rw [hby]; exact growslice_fits (by omega) (by omega))
    rw [Nat.zero_add] at hr
    have hge := grownCap_ge W k 0 5
    have hcl : grownCap W k 0 5 ≤ maxLen := grownCap_le_maxLen W k 0 5 (by simp only [maxLen]; omega)
    exact ⟨_, _, hr, by simp only [Array.size_append, zeros_size]; simp; omega, hge, hcl⟩
  have hwk : IntKind.i64.wrap (k : Int) = (k : Int) := by simp [IntKind.bits, IntKind.wrap, IntKind.signed]; omega
  have hk1 : (0 : Int) < (k : Int) := by omega
  have hk2 : ¬ (k : Int) < 0 := by omega
  have hsz1 : (Tryz.prog.info? 5).map (·.size) = some 1 := by kernel_rfl
  clear hi hz hsize hby i
  go_enter Tryz.func137, Tryz.ntmps137
  go_wp2_with (at_builtin; obtain ⟨C, c, hrun, hC, hkc, hcm⟩ := hr _; refine Lib.wpList_append_run _ rfl _ _ 33 3 rfl _ _ rfl rfl _ _ hrun ?_)
  go_ret
  exact ⟨_, c, rfl, ⟨by simp, .inr ⟨w.heap.size, c, C, rfl, Nat.le_refl _, heap_alloc_new w.drew _, Nat.zero_le _, hcm, by omega, by simp⟩⟩, Below.alloc (Below.refl w.heap.size w).drew (Nat.le_refl _) _⟩

set_option maxHeartbeats 4000000 in
theorem concat_any (xs ys zs : Bs) (A B C : Option Addr) (n m k ca cb cc : Nat) (hn : n = xs.length) (hm : m = ys.length) (hk : k = zs.length) (h0 : 0 < m) (hlen : n + m + k ≤ 100000000)
    (b cap : Nat) (w : World) (hA : Row w A (cellsB xs)) (hB : Row w B (cellsB ys)) (hC : Row w C (cellsB zs)) (zA : A = none → n = 0) (zB : B = none → m = 0) (zC : C = none → k = 0)
    (hs : Loc w b #[.slice A n ca, .slice B m cb, .slice C k cc] 33) :
    Calls Tryz.prog 114 #[.slice (some ⟨b, 0, none⟩) 3 cap] w fun e w' => ∃ g c, e = .returned (.slice (some ⟨g, 0, none⟩) (n + m + k) c) ∧ w'.ownsRow w.heap.size 5 1 (.slice (some ⟨g, 0, none⟩) (n + m + k) c) (n + m + k) (cellsB (xs ++ ys ++ zs)) ∧ Below w.heap.size w w' := by
  have w0 : IntKind.i64.wrap (n : Int) = (n : Int) := by simp [IntKind.bits, IntKind.wrap, IntKind.signed]; omega
  have w1 : IntKind.i64.wrap ((n : Int) + (m : Int)) = (n : Int) + (m : Int) := by simp [IntKind.bits, IntKind.wrap, IntKind.signed]; omega
  have w2 : IntKind.i64.wrap ((n : Int) + (m : Int) + (k : Int)) = (n : Int) + (m : Int) + (k : Int) := by simp [IntKind.bits, IntKind.wrap, IntKind.signed]; omega
  have q0 : ¬ (n : Int) < 0 := by omega
  have q1 : ¬ (n : Int) + (m : Int) < 0 := by omega
  have q2 : ¬ (n : Int) + (m : Int) + (k : Int) < 0 := by omega
  have HG := Lib.hid (grow_any (n + m + k) (by omega) hlen w)
  have c0 := hs.cell 0
  have c1 := hs.cell 1
  have c2 := hs.cell 2
  simp at c0 c1 c2
  have HS := Lib.hid hs
  have HA := Lib.hid hA; have HB := Lib.hid hB; have HC := Lib.hid hC
  have HN := Lib.hid hn; have HM := Lib.hid hm; have HK := Lib.hid hk
  have ZA := Lib.hid zA; have ZB := Lib.hid zB; have ZC := Lib.hid zC
  clear hs hA hB hC hn hm hk zA zB zC
  go_enter Tryz.func114, Tryz.ntmps114
  go_wp2
  refine wp_loop_rounds 4 ?_
  rw [rounds_succ]; go_wp2
  rw [rounds_succ]; go_wp2
  rw [rounds_succ]; go_wp2
  rw [rounds_succ]
  have hcast : ((n + m + k : Nat) : Int) = (n : Int) + (m : Int) + (k : Int) := by omega
  have hG := HG.out
  rw [hcast] at hG
  have HG' := Lib.hid hG
  clear hG HG hcast
  go_wp2_with (go_at_call 137; refine HG'.out.mono ?_; rintro e w3 ⟨g3, c3, rfl, own3, b3⟩)
  have d0 := (HS.out.below b3 HS.out.lt).cell 0
  have d1 := (HS.out.below b3 HS.out.lt).cell 1
  have d2 := (HS.out.below b3 HS.out.lt).cell 2
  simp at d0 d1 d2
  clear c0 c1 c2 HG'
  have hb := HS.out.lt
  refine wp_loop_rounds 4 ?_
  have hs0 : Src Tryz.prog 1 33 (.slice A n ca) n (cellsB xs) w3 := (HA.out.of_below b3 (Nat.le_refl _)).src Tryz.underlying33 (by simp [cellsB, HN.out]) (cellsB_one xs) ZA.out
  rw [rounds_succ]; go_wp2_with (at_builtin; refine wpList_append_mine _ rfl _ _ 33 33 rfl 5 (.int .u8 0) 1 1 Tryz.underlying33 infoU8 rfl (by decide) (.slice (some ⟨g3, 0, none⟩) 0 c3) 0 [] rfl (owns_base (base' := 0) own3 (fun _ _ => Nat.zero_le _)) (.slice A n ca) n (cellsB xs) rfl hs0 (by unfold maxLen; omega) (by omega) ?_; intro A4 c4 w4 hown4 hg4 hb4 hx4; obtain ⟨own4, b4⟩ := own_next0 own3 hown4 hg4 hb4 b3.size b3; rw [Nat.zero_add, List.nil_append] at own4)
  have d1 := (HS.out.below b4 HS.out.lt).cell 1
  have d2 := (HS.out.below b4 HS.out.lt).cell 2
  simp at d1 d2
  have hs1 : Src Tryz.prog 1 33 (.slice B m cb) m (cellsB ys) w4 := (HB.out.of_below b4 (Nat.le_refl _)).src Tryz.underlying33 (by simp [cellsB, HM.out]) (cellsB_one ys) ZB.out
  clear hown4 hg4 hb4 hx4 hs0 own3 d0
  rw [rounds_succ]; go_wp2_with (at_builtin; refine wpList_append_mine _ rfl _ _ 33 33 rfl 5 (.int .u8 0) 1 1 Tryz.underlying33 infoU8 rfl (by decide) (.slice A4 n c4) n (cellsB xs) rfl (owns_base (base' := 0) own4 (fun _ _ => Nat.zero_le _)) (.slice B m cb) m (cellsB ys) rfl hs1 (by unfold maxLen; omega) (by omega) ?_; intro A5 c5 w5 hown5 hg5 hb5 hx5; obtain ⟨own5, b5⟩ := own_next0 own4 hown5 hg5 hb5 b4.size b4)
  have d2 := (HS.out.below b5 HS.out.lt).cell 2
  simp at d2
  have hs2 : Src Tryz.prog 1 33 (.slice C k cc) k (cellsB zs) w5 := (HC.out.of_below b5 (Nat.le_refl _)).src Tryz.underlying33 (by simp [cellsB, HK.out]) (cellsB_one zs) ZC.out
  clear hown5 hg5 hb5 hx5 hs1 own4 d1
  rw [rounds_succ]; go_wp2_with (at_builtin; refine wpList_append_mine _ rfl _ _ 33 33 rfl 5 (.int .u8 0) 1 1 Tryz.underlying33 infoU8 rfl (by decide) (.slice A5 (n + m) c5) (n + m) (cellsB xs ++ cellsB ys) rfl (owns_base (base' := 0) own5 (fun _ _ => Nat.zero_le _)) (.slice C k cc) k (cellsB zs) rfl hs2 (by unfold maxLen; omega) (by omega) ?_; intro A6 c6 w6 hown6 hg6 hb6 hx6; obtain ⟨own6, b6⟩ := own_next0 own5 hown6 hg6 hb6 b5.size b5)
  clear hown6 hg6 hb6 hx6 hs2 own5 d2
  rw [rounds_succ]; go_wp2
  go_ret
  rw [cellsB_append, cellsB_append]
  rcases own6.2 with ⟨_, h0'⟩ | ⟨g, c, cur, he, _⟩
  · omega
  · simp only [Value.slice.injEq] at he
    obtain ⟨rfl, _, rfl⟩ := he
    exact ⟨g, c6, rfl, own6, b6⟩

set_option maxHeartbeats 2000000 in
theorem seal_any (xs ys : Bs) (A B : Option Addr) (n m ca cb : Nat) (hn : n = xs.length) (hm : m = ys.length) (h0 : 0 < m) (hm6 : m ≤ 65536) (hlen : n ≤ 90000000) (w : World) (hA : Row w A (cellsB xs)) (hB : Row w B (cellsB ys)) (zA : A = none → n = 0) (zB : B = none → m = 0) :
    Calls Tryz.prog 79 #[.slice A n ca, .slice B m cb] w fun e w' => ∃ g c, e = .returned (.tuple #[.slice (some ⟨g, 0, none⟩) (n + 8 + m) c, .int .i64 0]) ∧ w'.ownsRow w.heap.size 5 1 (.slice (some ⟨g, 0, none⟩) (n + 8 + m) c) (n + 8 + m) (cellsB (xs ++ headB ys ++ ys)) ∧ Below w.heap.size w w' := by
  have i0 : ¬ (m : Int) = 0 := by omega
  have i1 : ¬ (65536 : Int) < (m : Int) := by omega
  obtain ⟨H, hH⟩ : ∃ H, H = (cellsB (headB ys)).toArray := ⟨_, rfl⟩
  have hHs : H.size = 8 := by rw [hH]; rfl
  have hHo : ∀ i (h : i < H.size), H[i].oneCell' = true := by
    subst hH
    exact fun i h => cellsB_one _ _ (by simpa using List.getElem_mem (l := cellsB (headB ys)) (by simpa using h))
  have HO := Lib.hid (headOf_any ys B m cb hm hm6 w hB)
  rw [← hH] at HO
  have HH := Lib.hid hH
  have HA := Lib.hid hA; have HB := Lib.hid hB
  have HN := Lib.hid hn; have HM := Lib.hid hm
  have ZA := Lib.hid zA; have ZB := Lib.hid zB
  clear hH hA hB hn hm zA zB
  go_enter Tryz.func79, Tryz.ntmps79
  go_upto_region 5 with (fail)
  go_upto_region 6 with (go_at_call 113; refine HO.out.mono ?_; rintro e w1 ⟨rfl, b1⟩; have hst := fun (c0 : Array Value) (h0 : c0.size = 8) W => store_new 196 H (by rw [hHs]; exact infHead) hHo c0 (by rw [h0, hHs]) W)
  have L2 := Loc.new w1 H 196
  obtain ⟨g1, hg1⟩ : ∃ g1, g1 = w1.heap.size := ⟨_, rfl⟩
  obtain ⟨W2, hW2⟩ : ∃ W2, W2 = w1.alloc (.cells H 196) := ⟨_, rfl⟩
  have b2 : Below w.heap.size w W2 := by rw [hW2]; exact Below.alloc' b1.size _ b1
  rw [← hW2, ← hg1] at L2
  rw [← hW2, ← hg1]
  clear hst hW2 hg1 b1
  have b3 : Below w.heap.size w (W2.alloc (.cells #[.slice A n ca, .slice (some ⟨g1, 0, none⟩) 8 8, .slice B m cb] 33)) := Below.alloc' b2.size _ b2
  have hrH : Row (W2.alloc (.cells #[.slice A n ca, .slice (some ⟨g1, 0, none⟩) 8 8, .slice B m cb] 33)) (some ⟨g1, 0, none⟩) (cellsB (headB ys)) := by
    refine .inr ⟨_, 0, rfl, fun j _ => ?_⟩
    rw [(L2.alloc _).cell, HH.out, Nat.zero_add]
    simp
  have HCC := Lib.hid (concat_any xs (headB ys) ys A (some ⟨g1, 0, none⟩) B n 8 m ca 8 cb HN.out rfl HM.out (by decide) (by omega) W2.heap.size 3 _ (HA.out.of_below b3 (Nat.le_refl _)) hrH (HB.out.of_below b3 (Nat.le_refl _)) ZA.out (fun h => by cases h) ZB.out (Loc.new W2 _ _))
  clear hrH L2
  go_wp2_with (go_at_call 114; refine HCC.out.mono ?_; rintro e w4 ⟨g4, c4, rfl, own4, b4⟩)
  go_ret2
  exact ⟨g4, c4, rfl, owns_mono own4 b3.size, below_then b3 b4 b3.size⟩
end Go.Proofs.YtnieminnnkbneaaGreat
