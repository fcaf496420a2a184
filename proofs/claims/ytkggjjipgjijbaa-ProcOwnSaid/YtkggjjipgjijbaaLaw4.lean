/- Walks of the law's own helpers: mark, twin. -/
import Derived.Test.YtkggjjipgjijbaaLaw3
namespace Go.Proofs.Ytkggjjipgjijbaa
open Go.RowKit

def markI (i : Nat) : Ins := ⟨77 + i, -1, 0, 0, 0, ⟨9, 0, ⟨#[109, 97, 114, 107]⟩⟩⟩
def marks (k : Nat) : List Ins := (List.range k).map markI
theorem marks_succ (k : Nat) : marks (k + 1) = marks k ++ [markI k] := by simp [marks, List.range_succ]
theorem marks_length (k : Nat) : (marks k).length = k := by simp [marks]

set_option maxHeartbeats 1000000 in
theorem mark_any (i : Nat) (hi : i < 9) (w : World) :
    Calls Try.prog 21 #[.int .i64 i] w fun e w' => e = .returned (.agg (insCells (markI i))) ∧ Below w.heap.size w w' := by
  have hw : IntKind.i64.wrap (77 + (i : Int)) = 77 + (i : Int) := by simp [IntKind.bits, IntKind.wrap, IntKind.signed]; omega
  go_enter Try.func21, Try.ntmps21
  go_wp2
  have L := Loc.new w #[.int .i64 (77 + (i : Int)), .int .i64 (-1), .int .i64 0, .int .i64 0, .int .i64 0, .int .i64 9, .int .i64 0, .string ⟨#[109, 97, 114, 107]⟩] 28
  have c0 := L.cell 0; have c1 := L.cell 1; have c2 := L.cell 2; have c3 := L.cell 3; have c4 := L.cell 4; have c5 := L.cell 5; have c6 := L.cell 6; have c7 := L.cell 7
  simp only [List.getElem?_toArray, List.getElem?_cons_zero, List.getElem?_cons_succ] at c0 c1 c2 c3 c4 c5 c6 c7
  exact bodyPost_ret (v := .agg (insCells (markI i))) (by simp [results, Try.results21, go_sem, c0, c1, c2, c3, c4, c5, c6, c7, insCells, markI]) rfl ⟨rfl, (Below.refl _ _).alloc (Nat.le_refl _) _⟩

theorem codeCells_append (a b : List Ins) : codeCells (a ++ b) = codeCells a ++ codeCells b := by simp [codeCells]
theorem codeCells_one (x : Ins) : codeCells [x] = (insCells x).toList := by simp [codeCells]
theorem insCells_one (x : Ins) : ∀ u ∈ (insCells x).toList, u.oneCell' = true := by simp [insCells, Value.oneCell']
theorem codeCells_cell (l : List Ins) : ∀ u ∈ codeCells l, u.oneCell' = true := by
  intro u hu
  obtain ⟨x, _, hx⟩ := List.mem_flatMap.1 hu
  exact insCells_one x u hx

theorem infoIns : (Try.prog.info? 28).map (fun i => (i.zero, i.size, i.bytes)) = some (some (.agg #[.int .i64 0, .int .i64 0, .int .i64 0, .int .i64 0, .int .i64 0, .int .i64 0, .int .i64 0, .string ⟨#[]⟩]), 8, 72) := by kernel_rfl

set_option maxRecDepth 100000 in
set_option maxHeartbeats 4000000 in
theorem twin_any (p : Prc) (A : Option Addr) (cap : Nat) (w : World) (hr : Row w A (codeCells p.code)) (hA : A = none → p.code.length = 0) (hlen : p.code.length ≤ 65536) :
    Calls Try.prog 10 #[.agg (procCells p.name p.args A p.code.length cap)] w fun e w' => ∃ g c', e = .returned (.agg (procCells p.name p.args (some ⟨g, 0, none⟩) p.code.length c')) ∧
      w'.ownsRow w.heap.size 28 8 (.slice (some ⟨g, 0, none⟩) (p.code.length + 9) c') (p.code.length + 9) (codeCells (p.code ++ marks 9)) ∧ Below w.heap.size w w' := by
  obtain ⟨name, args, l⟩ := p
  simp only at *
  obtain ⟨L, hL⟩ : ∃ L, L = l.length := ⟨_, rfl⟩
  rw [← hL] at hA hlen ⊢
  have HL := Lib.hid hL
  have HR := Lib.hid hr
  clear hL hr
  unfold procCells
  have b1 := ((Below.refl w.heap.size w).alloc (Nat.le_refl _) (.cells #[.string name, .int .i64 args, .slice A L cap] 24)).alloc (by simp) (.cells #[.string ⟨#[]⟩, .int .i64 0, .slice none 0 0] 24)
  have L1 := (Loc.new w #[.string name, .int .i64 args, .slice A L cap] 24).alloc (.cells #[.string ⟨#[]⟩, .int .i64 0, .slice none 0 0] 24)
  have Z1 := Loc.new (w.alloc (.cells #[.string name, .int .i64 args, .slice A L cap] 24)) #[.string ⟨#[]⟩, .int .i64 0, .slice none 0 0] 24
  simp only [World.size_alloc] at Z1
  have hsrc := (HR.out.of_below b1 (Nat.le_refl _)).src (P := Try.prog) (size := 8) (n := L) (c := cap) (tx := 22) Try.underlying22 (by rw [codeCells_length, HL.out]) (codeCells_cell l) hA
  have HSRC := Lib.hid hsrc
  clear hsrc
  go_enter Try.func10, Try.ntmps10
  go_wp2_with (at_builtin; refine wpList_append_mine _ rfl _ _ 22 22 rfl 28 (.agg #[.int .i64 0, .int .i64 0, .int .i64 0, .int .i64 0, .int .i64 0, .int .i64 0, .int .i64 0, .string ⟨#[]⟩]) 8 72 Try.underlying22 infoIns rfl (by decide) (.slice none 0 0) 0 [] rfl (World.ownsRow_nil _ _ _ _) (.slice A L cap) L (codeCells l) rfl HSRC.out (by unfold maxLen; omega) (by omega) ?_; intro A1 c1 w1 hown1 hg1 hb1 hx1; have L2 := L1.grown hg1 (by simp [Value.ownBlock]); have Z2 := Z1.grown hg1 (by simp [Value.ownBlock]); obtain ⟨o1, b2⟩ := own_next0 (World.ownsRow_nil _ w.heap.size _ _) hown1 hg1 hb1 b1.size b1; rw [Nat.zero_add, List.nil_append] at o1; clear hx1 hg1 hb1 hown1)
  clear b1 L1 Z1 HSRC
  go_loopw [4, 3] (fun i v wr => ∃ k A' c', k ≤ 9 ∧ i = .int .i64 (k : Nat) ∧ v = .slice A' (L + k) c' ∧ wr.ownsRow w.heap.size 28 8 (.slice A' (L + k) c') (L + k) (codeCells (l ++ marks k)) ∧
      Loc wr w.heap.size #[.string name, .int .i64 args, .slice A L cap] 24 ∧ Loc wr (w.heap.size + 1) #[.string ⟨#[]⟩, .int .i64 0, .slice none 0 0] 24 ∧ Below w.heap.size w wr) (fun i _ _ => 9 - (intOf i).toNat)
  case atStart => exact ⟨0, A1, c1, by omega, rfl, rfl, by simpa [marks] using o1, L2, Z2, b2⟩
  case round =>
    obtain ⟨wi, rfl⟩ : ∃ wi, wi = wr := ⟨_, rfl⟩
    obtain ⟨k, A', c', hk, rfl, rfl, hown, LB, LZ, hb⟩ := hrel
    clear o1 L2 Z2 b2
    by_cases hk9 : k < 9
    · have hk9' : (k : Int) < 9 := by omega
      have hmk := fun W => mark_any k hk9 W
      have hcc : codeCells (l ++ marks (k + 1)) = codeCells (l ++ marks k) ++ (insCells (markI k)).toList := by rw [marks_succ, ← List.append_assoc, codeCells_append, codeCells_one]
      have HCC := Lib.hid hcc
      simp only [insCells, markI] at hmk
      have HMK := Lib.hid hmk
      clear hmk hcc
      go_wp2_with (first | (go_at_call 21; refine (HMK.out _).mono ?_; rintro e w2 ⟨rfl, hbm⟩; have hown2 := owns_mono' hown hbm; have LB2 := LB.below hbm LB.lt; have LZ2 := LZ.below hbm LZ.lt; have b3 := below_then hb hbm hb.size; have hown3 := owns_mono' hown2 ((Below.refl w2.heap.size w2).alloc (Nat.le_refl _) (.cells #[.int .i64 (77 + (k : Int)), .int .i64 (-1), .int .i64 0, .int .i64 0, .int .i64 0, .int .i64 9, .int .i64 0, .string ⟨#[109, 97, 114, 107]⟩] 28)); have LB3 := LB2.alloc (.cells #[.int .i64 (77 + (k : Int)), .int .i64 (-1), .int .i64 0, .int .i64 0, .int .i64 0, .int .i64 9, .int .i64 0, .string ⟨#[109, 97, 114, 107]⟩] 28); have LZ3 := LZ2.alloc (.cells #[.int .i64 (77 + (k : Int)), .int .i64 (-1), .int .i64 0, .int .i64 0, .int .i64 0, .int .i64 9, .int .i64 0, .string ⟨#[109, 97, 114, 107]⟩] 28); have b4 := b3.alloc b3.size (.cells #[.int .i64 (77 + (k : Int)), .int .i64 (-1), .int .i64 0, .int .i64 0, .int .i64 0, .int .i64 9, .int .i64 0, .string ⟨#[109, 97, 114, 107]⟩] 28); have hsrc := Row.src (P := Try.prog) (c := 1) (size := 8) (n := 1) (tx := 22) (Row.of_loc (Loc.new w2 #[.int .i64 (77 + (k : Int)), .int .i64 (-1), .int .i64 0, .int .i64 0, .int .i64 0, .int .i64 9, .int .i64 0, .string ⟨#[109, 97, 114, 107]⟩] 28)) Try.underlying22 rfl (by simp [Value.oneCell']) (fun h => by simp at h); have HSRC := Lib.hid hsrc; clear hsrc) | (at_builtin; refine wpList_append_mine _ rfl _ _ 22 22 rfl 28 (.agg #[.int .i64 0, .int .i64 0, .int .i64 0, .int .i64 0, .int .i64 0, .int .i64 0, .int .i64 0, .string ⟨#[]⟩]) 8 72 Try.underlying22 infoIns rfl (by decide) (.slice A' (L + k) c') (L + k) _ rfl (owns_base (base' := 0) hown3 (fun _ _ => Nat.zero_le _)) _ 1 _ rfl HSRC.out (by unfold maxLen; omega) (by omega) ?_; intro A2 c2 w3 hown4 hg4 hb4 hx4; have LB4 := LB3.grown hg4 (owns_ne hown3 LB3 (by decide)); have LZ4 := LZ3.grown hg4 (owns_ne hown3 LZ3 (by decide)); obtain ⟨o4, b5⟩ := own_next0 hown3 hown4 hg4 hb4 b4.size b4; clear hx4 hg4 hb4 hown4))
      go_roundw
      case rel =>
        refine ⟨k + 1, A2, c2, by omega, by go_num, by rw [Nat.add_assoc], ?_, LB4, LZ4, b5⟩
        rw [HCC.out, ← Nat.add_assoc]
        exact o4
      case measure => simp [intOf]; omega
    · obtain rfl : k = 9 := by omega
      have hA2 : ∃ g, A' = some ⟨g, 0, none⟩ ∧ L + 9 ≤ c' := by
        rcases hown.2 with ⟨_, h⟩ | ⟨g, cap', cur, hg, _, _, h3, _⟩
        · omega
        · cases hg; exact ⟨g, rfl, h3⟩
      obtain ⟨g, rfl, hgc⟩ := hA2
      have hsz8 : (Try.prog.info? 28).map (·.size) = some 8 := by kernel_rfl
      have hsl : ∀ W, (Instr.slice 22 (.slice (some ⟨g, 0, none⟩) (L + 9) c') none (some (.int .i64 (L : Int))) none).run Try.prog W = .ok (.slice (some ⟨g, 0, none⟩) L c') W := fun W => by
        rw [run_subTo (P := Try.prog) 22 28 8 Try.underlying22 hsz8 (some ⟨g, 0, none⟩) (L + 9) c' L (by omega) W]
        have e : subAddr (some ⟨g, 0, none⟩) 0 c' 8 = some ⟨g, 0, none⟩ := by
          unfold subAddr
          split <;> simp [Addr.add]
        rw [e]
      have c0 := LB.cell 0; have c1 := LB.cell 1; have c2 := LB.cell 2; have f2 := LB.free 2
      have z0 := LZ.cell 0; have z1 := LZ.cell 1; have z2 := LZ.cell 2; have y0 := LZ.free 0; have y1 := LZ.free 1; have y2 := LZ.free 2
      simp at c0 c1 c2 z0 z1 z2
      go_wp2
      have o1 := owns_setCell (a := ⟨w.heap.size, 2, none⟩) hown (owns_ne hown LB (by decide)) (.slice (some ⟨g, 0, none⟩) L c')
      have LZ1 := LZ.other (a := ⟨w.heap.size, 2, none⟩) (by show w.heap.size + 1 ≠ w.heap.size; omega) (.slice (some ⟨g, 0, none⟩) L c')
      have o2 := owns_setCell (a := ⟨w.heap.size + 1, 0, none⟩) o1 (owns_ne o1 LZ1 (by decide)) (.string name)
      have LZ2 := LZ1.set 0 (.string name)
      have o3 := owns_setCell (a := ⟨w.heap.size + 1, 1, none⟩) o2 (owns_ne o2 LZ2 (by decide)) (.int .i64 args)
      have LZ3 := LZ2.set 1 (.int .i64 args)
      have o4 := owns_setCell (a := ⟨w.heap.size + 1, 2, none⟩) o3 (owns_ne o3 LZ3 (by decide)) (.slice (some ⟨g, 0, none⟩) L c')
      have LZ4 := LZ3.set 2 (.slice (some ⟨g, 0, none⟩) L c')
      have b4 := (((hb.setCell (p := ⟨w.heap.size, 2, none⟩) (Nat.le_refl _) (.slice (some ⟨g, 0, none⟩) L c')).setCell (p := ⟨w.heap.size + 1, 0, none⟩) (Nat.le_succ _) (.string name)).setCell (p := ⟨w.heap.size + 1, 1, none⟩) (Nat.le_succ _) (.int .i64 args)).setCell (p := ⟨w.heap.size + 1, 2, none⟩) (Nat.le_succ _) (.slice (some ⟨g, 0, none⟩) L c')
      simp only [List.setIfInBounds_toArray, List.set_cons_zero, List.set_cons_succ] at LZ4
      have e0 := LZ4.cell 0; have e1 := LZ4.cell 1; have e2 := LZ4.cell 2
      simp only [List.getElem?_toArray, List.getElem?_cons_zero, List.getElem?_cons_succ] at e0 e1 e2
      exact bodyPost_ret (v := .agg #[.string name, .int .i64 args, .slice (some ⟨g, 0, none⟩) L c']) (by simp [results, Try.results10, go_sem, e0, e1, e2]) rfl ⟨g, c', rfl, o4, b4⟩
end Go.Proofs.Ytkggjjipgjijbaa
