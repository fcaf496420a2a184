/- Walk of BatchForm. -/
import Derived.Test.YtnmcdifkknphgaaBn
namespace Go.Proofs.Ytnmcdifkknphgaa
open Go.RowKit

set_option maxRecDepth 100000 in
set_option maxHeartbeats 4000000 in
theorem bform_any (A B : Option Addr) (n m ca cb : Nat) (cut : Int) (xs ys : Bs) (w : World) (ha : Row w A (cellsB xs)) (hb : Row w B (cellsB ys)) (hn : n = xs.length) (hm : m = ys.length) (hA : A = none → n = 0) (hB : B = none → m = 0)
    (hca : n ≤ ca) (hln0 : n ≤ 9223372036854775807) (hlm0 : m ≤ 9223372036854775807) :
    Calls Try.prog 7 #[.slice A n ca, .int .i64 cut, .slice B m cb] w fun e w' => e = .returned (.bool true) ∧ Below w.heap.size w w' := by
  have HA := Lib.hid ha
  have HB := Lib.hid hb
  have HN := Lib.hid hn
  have HM := Lib.hid hm
  clear ha hb hn hm
  go_enter Try.func7, Try.ntmps7
  by_cases hn6 : 200000 < n
  · have hn6' : (200000 : Int) < (n : Int) := by omega
    go_wp2
    go_ret
    exact ⟨rfl, Below.refl _ _⟩
  by_cases hm6 : 200000 < m
  · have hm6' : (200000 : Int) < (m : Int) := by omega
    have hn6' : ¬ (200000 : Int) < (n : Int) := by omega
    go_wp2
    go_ret
    exact ⟨rfl, Below.refl _ _⟩
  have hn6' : ¬ (200000 : Int) < (n : Int) := by omega
  have hm6' : ¬ (200000 : Int) < (m : Int) := by omega
  have hln : n ≤ 140737488355328 := by omega
  go_wp2_with fail
  refine (bdecode_any A n ca xs _ HA.out HN.out hA hln).mono ?_; rintro e w1 ⟨l, L, c1, hl, rfl, hown, hxo, hb1⟩
  obtain ⟨P, E, hPE⟩ : ∃ P E, batDecode xs = (P, E) := ⟨_, _, rfl⟩
  rw [hPE] at hl ⊢
  simp only at hl ⊢
  by_cases hE : E = 0
  · subst hE
    obtain ⟨hpc, hpb, hlen6, hsh⟩ := bat_form hPE
    have hpos := bform_pos hPE
    obtain ⟨hf1, hf2, _⟩ := batCheck_zero hpc
    have hpe : batEncode P = (xs, 0) := by
      unfold batEncode
      rw [if_neg (by simp [hpc]), hpb, if_neg (by omega)]
    obtain ⟨F, ts⟩ := P
    simp only at hl hf1 hf2 hsh
    have hfit : ∀ x ∈ l, x.fit := fun x hx => shape_fit (hsh _ (by rw [← hl]; exact List.mem_map_of_mem hx))
    have hnum : ∀ x ∈ l, ∀ v ∈ x.t.args, i64v v := fun x hx => (hsh x.t (by rw [← hl]; exact List.mem_map_of_mem hx)).num.2
    have hll : l.length ≤ 64 := by
      have := congrArg List.length hl
      rw [List.length_map] at this
      omega
    have hFr : i64R F := by unfold i64R; omega
    have hck := fun W (h : Row W L (txnsCells l)) (h2 : ∀ x ∈ l, x.ok W) => bcheck_any F l L c1 W h h2 hfit (by omega) hFr
    have hen := fun W (h : Row W L (txnsCells l)) (h2 : ∀ x ∈ l, x.ok W) => bencode_any F l L c1 W h h2 hfit hnum (by omega) hFr
    rw [hl, hpc] at hck
    rw [hl, hpe] at hen
    simp only at hck hen
    have hmore : ys ≠ [] → batDecode (xs ++ ys) = (.zero, if 65536 < (xs ++ ys).length then 4 else 3) := fun h => bform_more hPE h
    have hcut := fun k (hk : k < xs.length) => bform_cut hPE hk
    have HCK := Lib.hid hck
    have HEN := Lib.hid hen
    have HMORE := Lib.hid hmore
    have HCUT := Lib.hid hcut
    have hn0 : 0 < n := by rw [HN.out]; exact hpos
    obtain ⟨N, hN⟩ : ∃ N, N = l.length := ⟨_, rfl⟩
    rw [← hN] at hown hck hen HCK HEN ⊢
    clear hpc hpb hlen6 hsh hpos hpe hfit hnum hck hen hmore hcut hPE hl hf1 hf2 hFr hN
    go_wp2_with fail
    have LP2 := Loc.new w1 #[.int .i64 F, .slice L N c1] 24
    have b2 := hb1.alloc hb1.size (.cells #[.int .i64 F, .slice L N c1] 24)
    have ba := (Below.refl w1.heap.size w1).alloc (Nat.le_refl _) (.cells #[.int .i64 F, .slice L N c1] 24)
    have hown2 := owns_mono' hown ba
    have hxo2 := fun x hx => (hxo x hx).below ba
    refine (HEN.out _ (Row.of_owns hown2) (fun x hx => (hxo2 x hx).ok)).mono ?_; rintro e w2 ⟨A2, c2, rfl, hownE, hb⟩
    have LP3 := LP2.below hb LP2.lt
    have b3 := below_then b2 hb b2.size
    have hown3 := owns_mono' hown2 hb
    have hxo3 := fun x hx => (hxo2 x hx).below hb
    have p0 := LP3.cell 0; have p1 := LP3.cell 1
    simp at p0 p1
    clear LP2 b2 hown2 hown hxo hxo2 hb hb1 ba
    go_wp2_with fail
    refine (HCK.out _ (Row.of_owns hown3) (fun x hx => (hxo3 x hx).ok)).mono ?_; rintro e w3 ⟨rfl, hb⟩
    have b4 := below_then b3 hb b3.size
    have hownE2 := owns_mono' hownE hb
    clear LP3 b3 hown3 hxo3 hb p0 p1 hownE
    go_wp2_with fail
    refine (same_any A2 A xs.length n c2 ca xs xs _ (Row.of_owns hownE2) (HA.out.of_below b4 (Nat.le_refl _)) rfl HN.out (by rw [← HN.out]; exact hln) hln).mono ?_; rintro e w4 ⟨rfl, hb⟩
    have b5 := below_then b4 hb b4.size
    clear b4 hownE2 hb
    simp only [decide_true]
    have hcase : ∃ k : Nat, k < n ∧ ((0 ≤ cut.tmod (n : Int) ∧ cut.tmod (n : Int) = (k : Int)) ∨ (cut.tmod (n : Int) < 0 ∧ cut.tmod (n : Int) + (n : Int) = (k : Int))) := by
      have hlt : (cut.tmod (n : Int)).natAbs < n := by
        rw [Int.natAbs_tmod, Int.natAbs_natCast]
        exact Nat.mod_lt _ hn0
      by_cases h : 0 ≤ cut.tmod (n : Int)
      · exact ⟨(cut.tmod (n : Int)).toNat, by omega, .inl ⟨h, by omega⟩⟩
      · exact ⟨(cut.tmod (n : Int) + n).toNat, by omega, .inr ⟨by omega, by omega⟩⟩
    obtain ⟨k, hk, hcase⟩ := hcase
    have hsz1 : (Try.prog.info? 5).map (·.size) = some 1 := by kernel_rfl
    have hsl : ∀ W, (Instr.slice 39 (.slice A n ca) none (some (.int .i64 (k : Int))) none).run Try.prog W = .ok (.slice (subAddr A 0 ca 1) k ca) W := fun W => run_subTo (P := Try.prog) 39 5 1 Try.underlying39 hsz1 A n ca k (by omega) W
    have hrow : ∀ W, Below w.heap.size w W → Row W (subAddr A 0 ca 1) (cellsB (xs.take k)) := fun W hW => by
      have h := (HA.out.of_below hW (Nat.le_refl _)).subs 1 0 k ca (by rw [cellsB_length, ← HN.out]; omega) (by rw [cellsB_length, ← HN.out]; omega)
      have e : (((cellsB xs).drop (0 * 1)).take k) = cellsB (xs.take k) := by simp [cellsB]
      rw [e] at h
      exact h
    have HROW := Lib.hid hrow
    obtain ⟨P2, E2, hE2⟩ : ∃ P2 E2, batDecode (xs.take k) = (P2, E2) := ⟨_, _, rfl⟩
    have hne2 := HCUT.out k (by rw [← HN.out]; exact hk)
    rw [hE2] at hne2
    have ht2 : (E2 == 0) = false := by simpa using hne2
    have HE2 := Lib.hid hE2
    have hkl : k = (xs.take k).length := by rw [List.length_take, ← HN.out]; omega
    have hdc : ∀ W, Below w.heap.size w W → Calls Try.prog 18 #[.slice (subAddr A 0 ca 1) k ca] W fun e w' => (∃ v, e = .returned (.tuple #[.agg v, .int .i64 E2])) ∧ Below W.heap.size W w' := fun W hW => by
      refine (bdecode_any (subAddr A 0 ca 1) k ca (xs.take k) W (HROW.out W hW) hkl (fun h => by have := hA (subAddr_none h); omega) (by omega)).mono ?_
      rintro e w' ⟨l', L', c', _, rfl, _, _, hb⟩
      rw [HE2.out]
      exact ⟨⟨_, rfl⟩, hb⟩
    have HDC := Lib.hid hdc
    clear hrow hE2 hne2 hkl hdc
    rcases hcase with ⟨h1, h2⟩ | ⟨h1, h2⟩
    all_goals
      go_wp2_with fail
      refine (HDC.out _ b5).mono ?_; rintro e w5 ⟨⟨v, rfl⟩, hb⟩
      have b6 := below_then b5 hb b5.size
      clear hb
      by_cases hm0 : 0 < m
      · have hm0' : (0 : Int) < (m : Int) := by omega
        have hys : ys ≠ [] := by
          intro h
          have := HM.out
          rw [h] at this
          simp at this
          omega
        have hdm := HMORE.out hys
        have HDM := Lib.hid hdm
        clear hdm hys
        have hlit : (w5.alloc (.cells #[] 5)).ownsRow w5.heap.size 5 1 (.slice (some ⟨w5.heap.size, 0, none⟩) 0 0) 0 [] := World.ownsRow_lit w5 #[] 0 (Nat.le_refl _) (by decide) rfl
        have b7 := b6.alloc b6.size (.cells #[] 5)
        have hsA : Src Try.prog 1 39 (.slice A n ca) n (cellsB xs) (w5.alloc (.cells #[] 5)) := (HA.out.of_below b7 (Nat.le_refl _)).src Try.underlying39 (by simp [cellsB, HN.out]) (cellsB_one xs) hA
        have HRA := Lib.hid hsA
        have HLIT := Lib.hid (owns_base (base' := 0) hlit (fun _ _ => Nat.zero_le _))
        clear hsA
        go_wp2_with (first | (at_builtin; refine wpList_append_mine _ rfl _ _ 39 39 rfl 5 (.int .u8 0) 1 1 Try.underlying39 infoU8 rfl (by decide) (.slice (some ⟨w5.heap.size, 0, none⟩) 0 0) 0 [] rfl HLIT.out (.slice A n ca) n (cellsB xs) rfl HRA.out (by unfold maxLen; omega) (by omega) ?_; intro A6 c6 w6 hown6 hg6 hb6 hx6; obtain ⟨o6, b8⟩ := own_next0 (owns_base (base' := w.heap.size) hlit (fun k hk => by have := (hlit.lt k hk).1; have := b6.size; omega)) hown6 hg6 hb6 b7.size b7; have HSB := Lib.hid ((HB.out.of_below b8 (Nat.le_refl _)).src (P := Try.prog) (size := 1) (n := m) (c := cb) Try.underlying39 (by simp [cellsB, HM.out]) (cellsB_one ys) hB); rw [Nat.zero_add, List.nil_append] at hown6 o6; clear hx6) | (at_builtin; refine wpList_append_mine _ rfl _ _ 39 39 rfl 5 (.int .u8 0) 1 1 Try.underlying39 infoU8 rfl (by decide) (.slice A6 n c6) n (cellsB xs) rfl hown6 (.slice B m cb) m (cellsB ys) rfl HSB.out (by unfold maxLen; omega) (by omega) ?_; intro A7 c7 w7 hown7 hg7 hb7 hx7; obtain ⟨o7, b9⟩ := own_next0 o6 hown7 hg7 hb7 b8.size b8; clear hx7))
        have hrow7 : Row w7 A7 (cellsB (xs ++ ys)) := by
          have := Row.of_owns hown7
          rw [← cellsB_append] at this
          exact this
        refine (bdecode_any A7 (n + m) c7 (xs ++ ys) w7 hrow7 (by rw [List.length_append, ← HN.out, ← HM.out]) (owns_none hown7) (by omega)).mono ?_; rintro e w8 ⟨l8, L8, c8, _, rfl, _, _, hb⟩
        have b10 := below_then b9 hb b9.size
        simp only [HDM.out]
        clear hb hown7 hg7 hb7 o7 b9
        by_cases hbig : 65536 < n + m
        · rw [if_pos (by rw [List.length_append, ← HN.out, ← HM.out]; exact hbig)]
          have hbig' : (65536 : Int) < (n : Int) + (m : Int) := by omega
          go_wp2_with fail
          refine (bknown_any _).mono ?_; rintro e w9 ⟨rfl, hb⟩
          go_wp2
          go_ret
          exact ⟨rfl, below_then b10 hb b10.size⟩
        · rw [if_neg (by rw [List.length_append, ← HN.out, ← HM.out]; exact hbig)]
          go_wp2_with fail
          refine (bknown_any _).mono ?_; rintro e w9 ⟨rfl, hb⟩
          go_wp2
          go_ret
          exact ⟨rfl, below_then b10 hb b10.size⟩
      · have hm0' : ¬ (0 : Int) < (m : Int) := by omega
        go_wp2_with fail
        refine (bknown_any _).mono ?_; rintro e w6 ⟨rfl, hb⟩
        go_wp2
        go_ret
        exact ⟨rfl, below_then b6 hb b6.size⟩
  · have hz := batDecode_err hPE hE
    subst hz
    have hl0 : l = [] := by simpa [Bat.zero] using hl
    subst hl0
    have ht : (E != 0) = true := by simp [hE]
    simp only [Bat.zero, List.length_nil]
    clear hPE hE hown hl hxo
    go_wp2_with fail
    refine (bknown_any _).mono ?_; rintro e w2 ⟨rfl, hb2⟩
    go_wp2
    go_ret
    exact ⟨rfl, below_then (hb1.alloc hb1.size _) hb2 (by simp; exact Nat.le_succ_of_le hb1.size)⟩
end Go.Proofs.Ytnmcdifkknphgaa
