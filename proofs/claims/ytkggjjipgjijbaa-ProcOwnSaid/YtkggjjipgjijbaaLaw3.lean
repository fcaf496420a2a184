/- Walk of ProcForm. -/
import Derived.Test.YtkggjjipgjijbaaLaw2
namespace Go.Proofs.Ytkggjjipgjijbaa
open Go.RowKit

/-! ### the plain law -/
theorem procDecode_err {b : Bs} {p : Prc} {e : Int} (h : procDecode b = (p, e)) (he : e ≠ 0) : p = .zero := by
  unfold procDecode at h
  rcases h1 : (Rdr.new b).text 32 with ⟨s, r1⟩
  rw [h1] at h
  simp only at h
  rcases h2 : r1.number with ⟨a, r2⟩
  rw [h2] at h
  simp only at h
  rcases h3 : r2.number with ⟨n, r3⟩
  rw [h3] at h
  simp only at h
  by_cases c1 : r3.err ≠ 0
  · rw [if_pos c1] at h; exact (congrArg Prod.fst h).symm
  rw [if_neg c1] at h
  by_cases c2 : 64 < n
  · rw [if_pos c2] at h; exact (congrArg Prod.fst h).symm
  rw [if_neg c2] at h
  rcases h4 : readCode b.length n.toNat r3 [] with ⟨⟨l, r4⟩, e'⟩
  rw [h4] at h
  simp only at h
  by_cases c3 : e' ≠ 0
  · rw [if_pos c3] at h; exact (congrArg Prod.fst h).symm
  rw [if_neg c3] at h
  by_cases c4 : r4.end_ ≠ 0
  · rw [if_pos c4] at h; exact (congrArg Prod.fst h).symm
  rw [if_neg c4] at h
  by_cases c5 : (procCheck ⟨ofBs s, a, l⟩).2 ≠ 0
  · rw [if_pos c5] at h; exact (congrArg Prod.fst h).symm
  rw [if_neg c5] at h
  exact absurd (congrArg Prod.snd h).symm he

theorem fits_v {l : List Ins} (h : ∀ x ∈ l, x.fits) : ∀ x ∈ l, i64v x.v := fun x hx => (h x hx).2.2.2

theorem form_more {b rest : Bs} {p : Prc} (h : procDecode b = (p, 0)) (hr : rest ≠ []) : procDecode (b ++ rest) = (.zero, 3) := by
  obtain ⟨h1, h2, h3⟩ := proc_form h
  have := proc_back h1 (fits_v h3) rest
  rw [h2, if_neg hr] at this
  exact this

theorem form_cut {b : Bs} {p : Prc} (h : procDecode b = (p, 0)) {k : Nat} (hk : k < b.length) : (procDecode (b.take k)).2 ≠ 0 := by
  intro h0
  rcases hq : procDecode (b.take k) with ⟨q, e⟩
  rw [hq] at h0
  simp only at h0
  subst h0
  have h2 := form_more hq (rest := b.drop k) (by
    intro hd
    have := congrArg List.length hd
    rw [List.length_drop, List.length_nil] at this
    omega)
  rw [List.take_append_drop, h] at h2
  have := congrArg Prod.snd h2
  simp at this

theorem form_pos {b : Bs} {p : Prc} (h : procDecode b = (p, 0)) : 0 < b.length := by
  obtain ⟨_, h2, _⟩ := proc_form h
  have : 0 < (sevens p.name.data.toList.length).length := by
    unfold sevens
    rw [sevF]
    split <;> simp
  rw [← h2]
  unfold procBytes encText
  simp only [List.length_append]
  omega

theorem run_subTo {P : Program} (t e : TypeId) (size : Nat) (hu : P.underlying t = some (.slice e)) (hs : (P.info? e).map (·.size) = some size) (A : Option Addr) (len cap hi : Nat) (h2 : hi ≤ cap) (W : World) :
    (Instr.slice t (.slice A len cap) none (some (.int .i64 (hi : Int))) none).run P W = .ok (.slice (subAddr A 0 cap size) hi cap) W := by
  obtain ⟨i, hi', _⟩ : ∃ i, P.info? e = some i ∧ i.size = size := by
    cases h : P.info? e with
    | none => simp [h] at hs
    | some i => exact ⟨i, rfl, by simpa [h] using hs⟩
  have eh : (hi : Int).toNat = hi := rfl
  simp [Instr.slice, run_underlying hu, Instr.sliceBounds, run_sliceBound, sizeOf, typeInfo, hi', subAddr, h2]

theorem subAddr_none {A : Option Addr} {lo cap size : Nat} (h : subAddr A lo cap size = none) : A = none := by
  unfold subAddr at h
  split at h
  · exact h
  · simpa using h

/-! ### the walk -/
set_option maxRecDepth 100000 in
set_option maxHeartbeats 4000000 in
theorem form_any (A B : Option Addr) (n m ca cb : Nat) (cut : Int) (xs ys : Bs) (w : World) (ha : Row w A (cellsB xs)) (hb : Row w B (cellsB ys)) (hn : n = xs.length) (hm : m = ys.length) (hA : A = none → n = 0) (hB : B = none → m = 0)
    (hca : n ≤ ca) (hln0 : n ≤ 9223372036854775807) (hlm0 : m ≤ 9223372036854775807) :
    Calls Try.prog 7 #[.slice A n ca, .int .i64 cut, .slice B m cb] w fun e w' => e = .returned (.bool true) ∧ Below w.heap.size w w' := by
  have HA := Lib.hid ha
  have HB := Lib.hid hb
  have HN := Lib.hid hn
  have HM := Lib.hid hm
  clear ha hb hn hm
  go_enter Try.func7, Try.ntmps7
  by_cases hn6 : 65536 < n
  · have hn6' : (65536 : Int) < (n : Int) := by omega
    go_wp2
    go_ret
    exact ⟨rfl, Below.refl _ _⟩
  by_cases hm6 : 65536 < m
  · have hm6' : (65536 : Int) < (m : Int) := by omega
    have hn6' : ¬ (65536 : Int) < (n : Int) := by omega
    go_wp2
    go_ret
    exact ⟨rfl, Below.refl _ _⟩
  have hn6' : ¬ (65536 : Int) < (n : Int) := by omega
  have hm6' : ¬ (65536 : Int) < (m : Int) := by omega
  have hln : n ≤ 140737488355328 := by omega
  go_wp2_with fail
  refine (pdecode_any A n ca xs _ HA.out HN.out hA hln).mono ?_; rintro e w1 ⟨A1, c1, rfl, hown, hb1⟩
  obtain ⟨P, E, hPE⟩ : ∃ P E, procDecode xs = (P, E) := ⟨_, _, rfl⟩
  rw [hPE] at hown ⊢
  simp only [procCells] at hown ⊢
  have HPE := Lib.hid hPE
  by_cases hE : E = 0
  · subst hE
    obtain ⟨hpc, hpb, hfit⟩ := proc_form hPE
    have hpos := form_pos hPE
    have hpe : procEncode P = (xs, 0) := by unfold procEncode; rw [if_pos hpc, hpb]
    have hl64 : P.code.length ≤ 64 := (procCheck_zero hpc).2.2.1
    have hin : P.inR := by
      have ha := (procCheck_zero hpc).2.1
      exact ⟨by unfold i64R; omega, fun x hx => fits_inR (hfit x hx)⟩
    obtain ⟨z, hz⟩ : ∃ z, z = (procCheck P).1 := ⟨_, rfl⟩
    have hck := fun cap W (h : Row W A1 (codeCells P.code)) => pcheck_any P A1 cap W h (by omega) hin
    have hen := fun cap W (h : Row W A1 (codeCells P.code)) => pencode_any P A1 cap W h (by omega) hin
    rw [hpc, ← hz] at hck
    rw [hpe] at hen
    simp only [procCells] at hck hen
    have hmore : ys ≠ [] → procDecode (xs ++ ys) = (.zero, 3) := fun h => form_more hPE h
    have hcut := fun k (hk : k < xs.length) => form_cut hPE hk
    have HCK := Lib.hid hck
    have HEN := Lib.hid hen
    have HMORE := Lib.hid hmore
    have HCUT := Lib.hid hcut
    have hn0 : 0 < n := by rw [HN.out]; exact hpos
    generalize P.code.length = L at *
    generalize P.name = pn at *
    generalize P.args = pa at *
    clear hpc hpb hfit hpos hpe hin hz hck hen hmore hcut hPE
    go_wp2_with fail
    have LP2 := Loc.new w1 #[.string pn, .int .i64 pa, .slice A1 L c1] 24
    have b2 := hb1.alloc hb1.size (.cells #[.string pn, .int .i64 pa, .slice A1 L c1] 24)
    have hown2 := owns_mono' hown ((Below.refl w1.heap.size w1).alloc (Nat.le_refl _) (.cells #[.string pn, .int .i64 pa, .slice A1 L c1] 24))
    refine (HCK.out c1 _ (Row.of_owns hown2)).mono ?_; rintro e w2 ⟨rfl, hb⟩
    have LP3 := LP2.below hb LP2.lt
    have b3 := below_then b2 hb b2.size
    have hown3 := owns_mono' hown2 hb
    have p0 := LP3.cell 0; have p1 := LP3.cell 1; have p2 := LP3.cell 2
    simp at p0 p1 p2
    clear LP2 b2 hown2 hown hb hb1
    go_wp2_with fail
    refine (HEN.out c1 _ (Row.of_owns hown3)).mono ?_; rintro e w3 ⟨A2, c2, rfl, hownE, hb⟩
    have b4 := below_then b3 hb b3.size
    clear LP3 b3 hown3 hb p0 p1 p2
    go_wp2_with fail
    refine (same_any A A2 n xs.length ca c2 xs xs _ (HA.out.of_below b4 (Nat.le_refl _)) (Row.of_owns hownE) HN.out rfl hln (by rw [← HN.out]; exact hln)).mono ?_; rintro e w4 ⟨rfl, hb⟩
    have b5 := below_then b4 hb b4.size
    clear b4 hownE hb
    simp only [decide_true]
    have hcase : ∃ k : Nat, k < n ∧ ((0 ≤ cut.tmod (n : Int) ∧ cut.tmod (n : Int) = (k : Int)) ∨ (cut.tmod (n : Int) < 0 ∧ cut.tmod (n : Int) + (n : Int) = (k : Int))) := by
      have hlt : (cut.tmod (n : Int)).natAbs < n := by
        rw [Int.natAbs_tmod, Int.natAbs_natCast]
        exact Nat.mod_lt _ hn0
      by_cases h : 0 ≤ cut.tmod (n : Int)
      · exact ⟨(cut.tmod (n : Int)).toNat, by omega, .inl ⟨h, by omega⟩⟩
      · exact ⟨(cut.tmod (n : Int) + n).toNat, by omega, .inr ⟨by omega, by omega⟩⟩
    obtain ⟨k, hk, hcase⟩ := hcase
    have hsz1 : (Try.prog.info? 5).map (·.size) = some 1 := by kernel_rfl
    have hsl : ∀ W, (Instr.slice 38 (.slice A n ca) none (some (.int .i64 (k : Int))) none).run Try.prog W = .ok (.slice (subAddr A 0 ca 1) k ca) W := fun W => run_subTo (P := Try.prog) 38 5 1 Try.underlying38 hsz1 A n ca k (by omega) W
    have hrow : ∀ W, Below w.heap.size w W → Row W (subAddr A 0 ca 1) (cellsB (xs.take k)) := fun W hW => by
      have h := (HA.out.of_below hW (Nat.le_refl _)).subs 1 0 k ca (by rw [cellsB_length, ← HN.out]; omega) (by rw [cellsB_length, ← HN.out]; omega)
      have e : (((cellsB xs).drop (0 * 1)).take k) = cellsB (xs.take k) := by simp [cellsB]
      rw [e] at h
      exact h
    have HROW := Lib.hid hrow
    obtain ⟨P2, E2, hE2⟩ : ∃ P2 E2, procDecode (xs.take k) = (P2, E2) := ⟨_, _, rfl⟩
    have hne2 := HCUT.out k (by rw [← HN.out]; exact hk)
    rw [hE2] at hne2
    have ht2 : (E2 == 0) = false := by simpa using hne2
    have HE2 := Lib.hid hE2
    have hkl : k = (xs.take k).length := by rw [List.length_take, ← HN.out]; omega
    have hdc : ∀ W, Below w.heap.size w W → Calls Try.prog 18 #[.slice (subAddr A 0 ca 1) k ca] W fun e w' => (∃ v, e = .returned (.tuple #[.agg v, .int .i64 E2])) ∧ Below W.heap.size W w' := fun W hW => by
      refine (pdecode_any (subAddr A 0 ca 1) k ca (xs.take k) W (HROW.out W hW) hkl (fun h => by have := hA (subAddr_none h); omega) (by omega)).mono ?_
      rintro e w' ⟨A', c', rfl, _, hb⟩
      rw [HE2.out]
      exact ⟨⟨_, rfl⟩, hb⟩
    have HDC := Lib.hid hdc
    clear hrow hE2 hne2 hkl hdc
    rcases hcase with ⟨h1, h2⟩ | ⟨h1, h2⟩
    all_goals
      go_wp2_with fail
      refine (HDC.out _ b5).mono ?_; rintro e w5 ⟨⟨v, rfl⟩, hb⟩
      have b6 := below_then b5 hb b5.size
      clear hb
      by_cases hm0 : 0 < m
      · have hm0' : (0 : Int) < (m : Int) := by omega
        have hys : ys ≠ [] := by
          intro h
          have := HM.out
          rw [h] at this
          simp at this
          omega
        have hdm := HMORE.out hys
        have HDM := Lib.hid hdm
        clear hdm hys
        have hlit : (w5.alloc (.cells #[] 5)).ownsRow w5.heap.size 5 1 (.slice (some ⟨w5.heap.size, 0, none⟩) 0 0) 0 [] := World.ownsRow_lit w5 #[] 0 (Nat.le_refl _) (by decide) rfl
        have b7 := b6.alloc b6.size (.cells #[] 5)
        have hsA : Src Try.prog 1 38 (.slice A n ca) n (cellsB xs) (w5.alloc (.cells #[] 5)) := (HA.out.of_below b7 (Nat.le_refl _)).src Try.underlying38 (by simp [cellsB, HN.out]) (cellsB_one xs) hA
        have HRA := Lib.hid hsA
        have HLIT := Lib.hid (owns_base (base' := 0) hlit (fun _ _ => Nat.zero_le _))
        clear hsA
        go_wp2_with (first | (at_builtin; refine wpList_append_mine _ rfl _ _ 38 38 rfl 5 (.int .u8 0) 1 1 Try.underlying38 infoU8 rfl (by decide) (.slice (some ⟨w5.heap.size, 0, none⟩) 0 0) 0 [] rfl HLIT.out (.slice A n ca) n (cellsB xs) rfl HRA.out (by unfold maxLen; omega) (by omega) ?_; intro A6 c6 w6 hown6 hg6 hb6 hx6; obtain ⟨o6, b8⟩ := own_next0 (owns_base (base' := w.heap.size) hlit (fun k hk => by have := (hlit.lt k hk).1; have := b6.size; omega)) hown6 hg6 hb6 b7.size b7; have HSB := Lib.hid ((HB.out.of_below b8 (Nat.le_refl _)).src (P := Try.prog) (size := 1) (n := m) (c := cb) Try.underlying38 (by simp [cellsB, HM.out]) (cellsB_one ys) hB); rw [Nat.zero_add, List.nil_append] at hown6 o6; clear hx6) | (at_builtin; refine wpList_append_mine _ rfl _ _ 38 38 rfl 5 (.int .u8 0) 1 1 Try.underlying38 infoU8 rfl (by decide) (.slice A6 n c6) n (cellsB xs) rfl hown6 (.slice B m cb) m (cellsB ys) rfl HSB.out (by unfold maxLen; omega) (by omega) ?_; intro A7 c7 w7 hown7 hg7 hb7 hx7; obtain ⟨o7, b9⟩ := own_next0 o6 hown7 hg7 hb7 b8.size b8; clear hx7))
        have hrow7 : Row w7 A7 (cellsB (xs ++ ys)) := by
          have := Row.of_owns hown7
          rw [← cellsB_append] at this
          exact this
        refine (pdecode_any A7 (n + m) c7 (xs ++ ys) w7 hrow7 (by rw [List.length_append, ← HN.out, ← HM.out]) (owns_none hown7) (by omega)).mono ?_; rintro e w8 ⟨A8, c8, rfl, _, hb⟩
        have b10 := below_then b9 hb b9.size
        simp only [HDM.out]
        clear hb hown7 hg7 hb7 o7 b9
        go_wp2_with fail
        refine (known_any _).mono ?_; rintro e w9 ⟨rfl, hb⟩
        go_wp2
        go_ret
        exact ⟨rfl, below_then b10 hb b10.size⟩
      · have hm0' : ¬ (0 : Int) < (m : Int) := by omega
        go_wp2_with fail
        refine (known_any _).mono ?_; rintro e w6 ⟨rfl, hb⟩
        go_wp2
        go_ret
        exact ⟨rfl, below_then b6 hb b6.size⟩
  · have hz := procDecode_err hPE hE
    subst hz
    have ht : (E != 0) = true := by simp [hE]
    simp only [Prc.zero, emptyB, List.length_nil]
    clear hPE hE hown HPE
    go_wp2_with fail
    refine (known_any _).mono ?_; rintro e w2 ⟨rfl, hb2⟩
    go_wp2
    go_ret
    exact ⟨rfl, below_then (hb1.alloc hb1.size _) hb2 (by simp; exact Nat.le_succ_of_le hb1.size)⟩
end Go.Proofs.Ytkggjjipgjijbaa
