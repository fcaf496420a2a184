/- Walk of the document's own Check. -/
import Derived.Test.YtnieminnnkbneaaGreatRef2
namespace Go.Proofs.YtnieminnnkbneaaGreat
open Go.RowKit

set_option maxHeartbeats 4000000 in
theorem refCheck_any (p : Prc) (A : Option Addr) (cap : Nat) (w : World) (hr : Row w A (codeCells p.code)) (hlen : p.code.length ≤ 9223372036854775807) :
    Calls Tryz.prog 93 #[.agg (procCells p.name p.args A p.code.length cap)] w fun e w' => e = .returned (.tuple #[.int .i64 (procCheck p).1, .int .i64 (procCheck p).2]) ∧ Below w.heap.size w w' := by
  obtain ⟨name, args, l⟩ := p
  obtain ⟨R1, R2, hR⟩ : ∃ R1 R2, (R1, R2) = procCheck ⟨name, args, l⟩ := ⟨_, _, rfl⟩
  rw [← hR]
  simp only at hr hlen ⊢
  have HR := Lib.hid hR
  obtain ⟨L, hL⟩ : ∃ L, L = l.length := ⟨_, rfl⟩
  rw [← hL] at hlen ⊢
  have HL := Lib.hid hL
  have HROW := Lib.hid hr
  obtain ⟨nm, hnm⟩ : ∃ nm, nm = isName name := ⟨_, rfl⟩
  have hN := fun W => refIsName_any name W
  rw [← hnm] at hN
  have HN := Lib.hid hN
  have HNM := Lib.hid hnm
  clear hR hL hr hN hnm
  unfold procCells
  go_enter Tryz.func93, Tryz.ntmps93
  have bw0 : Below w.heap.size w (w.alloc (.cells #[.string name, .int .i64 args, .slice A L cap] 54)) := (Below.refl _ _).alloc (Nat.le_refl _) _
  have HP := Loc.new w #[.string name, .int .i64 args, .slice A L cap] 54
  go_wp2_with fail
  refine (HN.out _).mono ?_; rintro e w' ⟨rfl, rfl⟩
  cases nm with
  | false =>
    go_wp2
    go_ret2
    refine ⟨ret_pair ?_, bw0⟩
    rw [HR.out]; simp [procCheck, ← HNM.out]
  | true =>
    by_cases ha : args < 0 ∨ 16 < args
    · have hpc : procCheck ⟨name, args, l⟩ = (-1, 1) := by simp only [procCheck, ← HNM.out]; rw [if_neg (by simp), if_pos ha]
      have HPC := Lib.hid hpc
      clear hpc
      rcases ha with ha | ha
      all_goals
        go_wp2
        go_ret2
        refine ⟨ret_pair ?_, bw0⟩
        rw [HR.out, HPC.out]
    · have ha1 : ¬ args < 0 := by omega
      have ha2 : ¬ 16 < args := by omega
      by_cases hl : 64 < l.length
      · have hpc : procCheck ⟨name, args, l⟩ = (-1, 4) := by simp only [procCheck, ← HNM.out]; rw [if_neg (by simp), if_neg ha, if_pos hl]
        have HPC := Lib.hid hpc
        have hl' : (64 : Int) < (L : Int) := by have := HL.out; omega
        clear hpc ha
        go_wp2
        go_ret2
        refine ⟨ret_pair ?_, bw0⟩
        rw [HR.out, HPC.out]
      · have hpc : procCheck ⟨name, args, l⟩ = codeCheck args l.length 0 l := by simp only [procCheck, ← HNM.out]; rw [if_neg (by simp), if_neg ha, if_neg hl]
        have HPC := Lib.hid hpc
        have hl' : ¬ (64 : Int) < (L : Int) := by have := HL.out; omega
        clear hpc ha
        go_wp2
        go_loopw [5, 6] (fun i _ wr => ∃ j : Nat, j ≤ L ∧ i = .int .i64 j ∧ Hid (∀ m (h : m < l.length), m < j → insCheck args l.length m l[m] = 0) ∧ Below w.heap.size w wr ∧ Loc wr w.heap.size #[.string name, .int .i64 args, .slice A L cap] 54)
          (fun i _ _ => L - (intOf i).toNat)
        case atStart => exact ⟨0, Nat.zero_le _, rfl, Lib.hid (fun m _ h => absurd h (by omega)), bw0, HP⟩
        case round =>
          obtain ⟨wi, rfl⟩ : ∃ wi, wi = wr := ⟨_, rfl⟩
          obtain ⟨j, hj, rfl, HJ, bwr, LPr⟩ := hrel
          have c0 := LPr.cell 0; have c1 := LPr.cell 1; have c2 := LPr.cell 2
          simp at c0 c1 c2
          by_cases hlt : j < L
          · have hjl : j < l.length := by rw [← HL.out]; exact hlt
            have hI := refInstr_any name args A cap l j hjl wi (HROW.out.of_below bwr (Nat.le_refl _)) (by rw [← HL.out]; omega)
            obtain ⟨r, hr1⟩ : ∃ r, r = insCheck args l.length j l[j] := ⟨_, rfl⟩
            rw [← hr1, ← HL.out] at hI
            unfold procCells at hI
            have HI := Lib.hid hI
            have HR1 := Lib.hid hr1
            have hlt' : (j : Int) < (L : Int) := by omega
            clear hI hr1
            by_cases h0 : r = 0
            · subst h0
              go_wp2_with fail
              refine HI.out.mono ?_; rintro e w' ⟨rfl, hb⟩
              go_wp2
              go_roundw
              case rel =>
                refine ⟨j + 1, by omega, by go_num, Lib.hid (fun m hm hmj => ?_), below_then bwr hb bwr.size, LPr.below hb LPr.lt⟩
                rcases Nat.lt_or_ge m j with h | h
                · exact HJ.out m hm h
                · obtain rfl : m = j := by omega
                  exact HR1.out.symm
              case measure => simp [intOf]; omega
            · have h0' : (r != 0) = true := by simpa using h0
              have H0 := Lib.hid h0
              clear h0
              go_wp2_with fail
              refine HI.out.mono ?_; rintro e w' ⟨rfl, hb⟩
              go_wp2
              go_ret2
              refine ⟨ret_pair ?_, below_then bwr hb bwr.size⟩
              rw [HR.out, HPC.out, codeCheck_step args l.length 0 l j (by have := HL.out; omega) (fun m hm hmj => by rw [Nat.zero_add]; exact HJ.out m hm hmj), Nat.zero_add, List.drop_eq_getElem_cons hjl, codeCheck, ← HR1.out, if_pos H0.out]
          · obtain rfl : j = L := by omega
            go_wp2
            go_ret2
            refine ⟨ret_pair ?_, bwr⟩
            rw [HR.out, HPC.out, codeCheck_step args l.length 0 l l.length (Nat.le_refl _) (fun m hm hmj => by rw [Nat.zero_add]; exact HJ.out m hm (by have := HL.out; omega)), List.drop_length, codeCheck]
end Go.Proofs.YtnieminnnkbneaaGreat
