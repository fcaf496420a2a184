/- Walk of proc.Check. -/
import Derived.Test.YtnieminnnkbneaaGreatProc2
import Derived.Deep.WholeRow
namespace Go.Proofs.YtnieminnnkbneaaGreat
open Go.RowKit

def Prc.inR (p : Prc) : Prop := i64R p.args ∧ ∀ x ∈ p.code, x.inR

theorem store_new (t : TypeId) (c : Array Value) (hi : (Tryz.prog.info? t).map (·.size) = some c.size) (h1 : ∀ i (h : i < c.size), c[i].oneCell' = true) (c0 : Array Value) (h0 : c0.size = c.size) (w : World) :
    (storeCells ⟨w.heap.size, 0, none⟩ c.toList).run Tryz.prog (w.alloc (.cells c0 t)) = .ok () (w.alloc (.cells c t)) :=
  run_storeCells_new w t c0 c hi h0 (by simpa [Array.all_eq_true] using h1)

theorem Tab.below {B : Nat} {w w' : World} {lb : Nat} (h : Tab w lb) (hb : Below B w w') (hB : w.heap.size ≤ B) : Tab w' lb := by
  obtain ⟨c, B', h1, h2⟩ := h
  exact ⟨c, B', h1.below hb (Nat.lt_of_lt_of_le h1.lt hB), h2.keep (fun g cs t _ h => h.below hb (Nat.lt_of_lt_of_le h.lt hB))⟩

theorem ret_pair {a b c d : Int} (h : (a, b) = (c, d)) : Ending.returned (.tuple #[.int .i64 a, .int .i64 b]) = .returned (.tuple #[.int .i64 c, .int .i64 d]) := by cases h; rfl

theorem codeCheck_step (args len : Int) (i : Nat) (l : List Ins) : ∀ k, k ≤ l.length → (∀ j (h : j < l.length), j < k → insCheck args len (i + j : Nat) l[j] = 0) → codeCheck args len i l = codeCheck args len (i + k) (l.drop k) := by
  intro k
  induction k generalizing i l with
  | zero => intro _ _; simp
  | succ k ih =>
    intro hk h
    cases l with
    | nil => simp at hk
    | cons x l =>
      have h0 := h 0 (by simp) (by omega)
      simp at h0
      have e : codeCheck args len i (x :: l) = codeCheck args len (i + 1) l := by rw [codeCheck, if_neg (by simp [h0])]
      rw [e, List.drop_succ_cons, ih (i + 1) l (by simpa using hk) (fun j hj hjk => by
        have := h (j + 1) (by simpa using hj) (by omega)
        simp at this
        rw [show ((i + 1 + j : Nat) : Int) = (i : Int) + ((j : Int) + 1) by omega]
        exact this)]
      congr 1
      omega

set_option maxHeartbeats 4000000 in
theorem pcheck_any (p : Prc) (A : Option Addr) (cap : Nat) (w : World) (hr : Row w A (codeCells p.code)) (hlen : p.code.length ≤ 140737488355328) (hin : p.inR) :
    Calls Tryz.prog 73 #[.agg (procCells p.name p.args A p.code.length cap)] w fun e w' => e = .returned (.tuple #[.int .i64 (procCheck p).1, .int .i64 (procCheck p).2]) ∧ Below w.heap.size w w' := by
  obtain ⟨name, args, l⟩ := p
  obtain ⟨R1, R2, hR⟩ : ∃ R1 R2, (R1, R2) = procCheck ⟨name, args, l⟩ := ⟨_, _, rfl⟩
  rw [← hR]
  have HR := Lib.hid hR
  clear hR
  unfold procCells
  go_enter Tryz.func73, Tryz.ntmps73
  obtain ⟨nm, hnm⟩ : ∃ nm, nm = isName name := ⟨_, rfl⟩
  have hN := fun W => isName_any name W
  rw [← hnm] at hN
  have HN := Lib.hid hN
  have HNM := Lib.hid hnm
  clear hN hnm
  have bw0 : Below w.heap.size w (w.alloc (.cells (procCells name args A l.length cap) 54)) := (Below.refl _ _).alloc (Nat.le_refl _) _
  have HP := Loc.new w (procCells name args A l.length cap) 54
  cases nm with
  | false =>
    go_wp2_with (go_at_call 110; refine (HN.out _).mono ?_; rintro e w' ⟨rfl, rfl⟩)
    go_ret2
    refine ⟨ret_pair ?_, bw0⟩
    rw [HR.out]; simp [procCheck, ← HNM.out]
  | true =>
    by_cases ha : args < 0 ∨ 16 < args
    · have hpc : procCheck ⟨name, args, l⟩ = (-1, 1) := by simp only [procCheck, ← HNM.out]; rw [if_neg (by simp), if_pos ha]
      have HPC := Lib.hid hpc
      clear hpc
      rcases ha with ha | ha
      all_goals
        go_wp2_with (go_at_call 110; refine (HN.out _).mono ?_; rintro e w' ⟨rfl, rfl⟩)
        go_ret2
        refine ⟨ret_pair ?_, bw0⟩
        rw [HR.out, HPC.out]
    · have ha1 : ¬ args < 0 := by omega
      have ha2 : ¬ 16 < args := by omega
      by_cases hl : 64 < l.length
      · have hpc : procCheck ⟨name, args, l⟩ = (-1, 4) := by simp only [procCheck, ← HNM.out]; rw [if_neg (by simp), if_neg ha, if_pos hl]
        have HPC := Lib.hid hpc
        have hl' : (64 : Int) < (l.length : Int) := by omega
        clear hpc ha
        go_wp2_with (go_at_call 110; refine (HN.out _).mono ?_; rintro e w' ⟨rfl, rfl⟩)
        go_ret2
        refine ⟨ret_pair ?_, bw0⟩
        rw [HR.out, HPC.out]
      · have hpc : procCheck ⟨name, args, l⟩ = codeCheck args l.length 0 l := by simp only [procCheck, ← HNM.out]; rw [if_neg (by simp), if_neg ha, if_neg hl]
        have HPC := Lib.hid hpc
        have hl' : ¬ (64 : Int) < (l.length : Int) := by omega
        clear hpc ha
        go_wp2_with (first | (go_at_call 110; refine (HN.out _).mono ?_; rintro e w' ⟨rfl, rfl⟩) | (go_at_call 111; refine (shapes_any _).mono ?_; rintro e w1 ⟨c, rfl, hS, hb1⟩; have hcs := hS.1; have hst := fun (c0 : Array Value) (h0 : c0.size = 34) W => store_new 184 c (by rw [hcs]; kernel_rfl) hS.2.1 c0 (by rw [h0, hcs]) W; have LP1 := HP.below hb1 HP.lt; have q2 := LP1.cell 2; simp [procCells] at q2; have hb1s := LP1.lt; have hne : w.heap.size ≠ w1.heap.size := by omega))
        have bw1 : Below w.heap.size w w1 := below_then bw0 hb1 (by simp [World.size_alloc])
        have HST := Lib.hid hst
        have HQ := Lib.hid q2
        clear hst
        obtain ⟨W2, hW2⟩ : ∃ W2, W2 = w1.alloc (.cells c 184) := ⟨_, rfl⟩
        rw [← hW2]
        have bw2 : Below w.heap.size w W2 := by rw [hW2]; exact Below.alloc' (Nat.le_of_lt hb1s) _ bw1
        have LP2 : Loc W2 w.heap.size (procCells name args A l.length cap) 54 := by rw [hW2]; exact LP1.alloc _
        have hsz2 : w1.heap.size < W2.heap.size := by rw [hW2]; simp [World.size_alloc]
        have LT2 : Tab W2 w1.heap.size := ⟨c, _, by rw [hW2]; exact Loc.new _ _ _, hS.keep (fun g cs t _ h => by rw [hW2]; exact h.alloc _)⟩
        go_loopw [30] (fun i wr => ∃ j : Nat, j ≤ l.length ∧ i = .int .i64 j ∧ Hid (∀ m (h : m < l.length), m < j → insCheck args l.length m l[m] = 0) ∧ Below W2.heap.size W2 wr)
          (fun i _ => l.length - (intOf i).toNat)
        case atStart => exact ⟨0, Nat.zero_le _, rfl, Lib.hid (fun m _ h => absurd h (by omega)), Below.refl _ _⟩
        case round =>
          rename_i wr
          obtain ⟨j, hj, rfl, HJ, bwr⟩ := hrel
          have hbwr : Below w.heap.size w wr := below_then bw2 bwr bw2.size
          by_cases hlt : j < l.length
          · have hI := instr_any w1.heap.size w.heap.size name args A cap l j hlt wr (LT2.below bwr (Nat.le_refl _)) (LP2.below bwr LP2.lt) (hr.of_below hbwr (Nat.le_refl _)) hlen (hin.2 _ (List.getElem_mem hlt))
            obtain ⟨r, hr1⟩ : ∃ r, r = insCheck args l.length j l[j] := ⟨_, rfl⟩
            rw [← hr1] at hI
            have HI := Lib.hid hI
            have HR1 := Lib.hid hr1
            have hlt' : (j : Int) < (l.length : Int) := by omega
            clear hI hr1 hin hr
            by_cases h0 : r = 0
            · subst h0
              go_wp2_with (go_at_call 112; refine HI.out.mono ?_; rintro e w' ⟨rfl, hb⟩)
              go_roundw
              case rel =>
                refine ⟨j + 1, by omega, by go_num, Lib.hid (fun m hm hmj => ?_), below_then bwr hb bwr.size⟩
                rcases Nat.lt_or_ge m j with h | h
                · exact HJ.out m hm h
                · obtain rfl : m = j := by omega
                  exact HR1.out.symm
              case measure => simp [intOf]; omega
            · have h0' : (r == 0) = false := by simpa using h0
              go_wp2_with (go_at_call 112; refine HI.out.mono ?_; rintro e w' ⟨rfl, hb⟩)
              go_ret2
              refine ⟨ret_pair ?_, below_then hbwr hb hbwr.size⟩
              rw [HR.out, HPC.out, codeCheck_step args l.length 0 l j hj (fun m hm hmj => by rw [Nat.zero_add]; exact HJ.out m hm hmj), Nat.zero_add, List.drop_eq_getElem_cons hlt, codeCheck, ← HR1.out, if_pos h0]
          · obtain rfl : j = l.length := by omega
            go_wp2
            go_ret2
            refine ⟨ret_pair ?_, hbwr⟩
            rw [HR.out, HPC.out, codeCheck_step args l.length 0 l l.length hj (fun m hm hmj => by rw [Nat.zero_add]; exact HJ.out m hm hmj), List.drop_length, codeCheck]
end Go.Proofs.YtnieminnnkbneaaGreat
