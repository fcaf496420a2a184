/- Walk of the law's own stands; a row of one's own with one instruction written over. -/
import Derived.Test.YtkggjjipgjijbaaLaw4
import Derived.Deep.RegionHeld3
namespace Go.Proofs.Ytkggjjipgjijbaa
open Go.RowKit

theorem Row.fore {w : World} {A : Option Addr} {cs ds : List Value} (h : Row w A (cs ++ ds)) : Row w A cs := by
  rcases h with h | ⟨b, off, rfl, h⟩
  · exact .inl (List.append_eq_nil_iff.1 h).1
  · refine .inr ⟨b, off, rfl, fun j hj => ?_⟩
    rw [h j (by rw [List.length_append]; omega), List.getElem?_append_left hj]

theorem Row.code {w : World} {A : Option Addr} {l m : List Ins} (h : Row w A (codeCells (l ++ m))) : Row w A (codeCells l) := by
  rw [codeCells_append] at h
  exact h.fore

/-- A cell of a row of one's own written over. -/
theorem owns_set {w : World} {base : Nat} {e : TypeId} {size n g c : Nat} {xs : List Value} (h : w.ownsRow base e size (.slice (some ⟨g, 0, none⟩) n c) n xs) (i : Nat) (_hi : i < xs.length) (v : Value) :
    (w.setCell ⟨g, i, none⟩ v).ownsRow base e size (.slice (some ⟨g, 0, none⟩) n c) n (xs.set i v) := by
  obtain ⟨hl, h⟩ := h
  refine ⟨by rw [List.length_set]; exact hl, ?_⟩
  rcases h with ⟨h, _⟩ | ⟨g', cap, cur, hv, hb, hg, h1, h2, h3, h4⟩
  · cases h
  · cases hv
    refine .inr ⟨g, c, cur.setIfInBounds i v, rfl, hb, blk_set hg i v, h1, h2, by simpa using h3, ?_⟩
    rw [Array.toList_setIfInBounds, ← h4, List.take_set]

/-- An instruction of a row of one's own written over, cell by cell. -/
theorem owns_put {w : World} {base n g c : Nat} {l : List Ins} (h : w.ownsRow base 28 8 (.slice (some ⟨g, 0, none⟩) n c) n (codeCells l)) (k : Nat) (hk : k < l.length) (x : Ins) :
    ((((((((w.setCell ⟨g, k * 8, none⟩ (.int .i64 x.op)).setCell ⟨g, k * 8 + 1, none⟩ (.int .i64 x.a)).setCell ⟨g, k * 8 + 2, none⟩ (.int .i64 x.b)).setCell ⟨g, k * 8 + 3, none⟩ (.int .i64 x.c)).setCell ⟨g, k * 8 + 4, none⟩ (.int .i64 x.n)).setCell ⟨g, k * 8 + 5, none⟩ (.int .i64 x.v.kind)).setCell ⟨g, k * 8 + 6, none⟩ (.int .i64 x.v.num)).setCell ⟨g, k * 8 + 7, none⟩ (.string x.v.text)).ownsRow base 28 8 (.slice (some ⟨g, 0, none⟩) n c) n (codeCells (l.set k x)) := by
  have hl : (codeCells l).length = l.length * 8 := codeCells_length l
  have o0 := owns_set h (k * 8) (by omega) (.int .i64 x.op)
  have o1 := owns_set o0 (k * 8 + 1) (by simp only [List.length_set]; omega) (.int .i64 x.a)
  have o2 := owns_set o1 (k * 8 + 2) (by simp only [List.length_set]; omega) (.int .i64 x.b)
  have o3 := owns_set o2 (k * 8 + 3) (by simp only [List.length_set]; omega) (.int .i64 x.c)
  have o4 := owns_set o3 (k * 8 + 4) (by simp only [List.length_set]; omega) (.int .i64 x.n)
  have o5 := owns_set o4 (k * 8 + 5) (by simp only [List.length_set]; omega) (.int .i64 x.v.kind)
  have o6 := owns_set o5 (k * 8 + 6) (by simp only [List.length_set]; omega) (.int .i64 x.v.num)
  have o7 := owns_set o6 (k * 8 + 7) (by simp only [List.length_set]; omega) (.string x.v.text)
  have e : codeCells (l.set k x) = ((((((((codeCells l).set (k * 8) (.int .i64 x.op)).set (k * 8 + 1) (.int .i64 x.a)).set (k * 8 + 2) (.int .i64 x.b)).set (k * 8 + 3) (.int .i64 x.c)).set (k * 8 + 4) (.int .i64 x.n)).set (k * 8 + 5) (.int .i64 x.v.kind)).set (k * 8 + 6) (.int .i64 x.v.num)).set (k * 8 + 7) (.string x.v.text) := by
    clear o0 o1 o2 o3 o4 o5 o6 o7 h hl
    induction l generalizing k with
    | nil => simp at hk
    | cons y l ih =>
      have e2 : codeCells (y :: l) = (insCells y).toList ++ codeCells l := by simp [codeCells]
      cases k with
      | zero =>
        have e3 : codeCells (x :: l) = (insCells x).toList ++ codeCells l := by simp [codeCells]
        rw [List.set_cons_zero, e2, e3]
        simp [insCells]
      | succ k =>
        have e3 : codeCells (y :: l.set k x) = (insCells y).toList ++ codeCells (l.set k x) := by simp [codeCells]
        have hly : (insCells y).toList.length = 8 := rfl
        have hs : ∀ (r : Nat) (v : Value) (cs : List Value), ((insCells y).toList ++ cs).set ((k + 1) * 8 + r) v = (insCells y).toList ++ cs.set (k * 8 + r) v := fun r v cs => by
          rw [List.set_append_right _ _ (by rw [hly]; omega), hly]
          congr 2
          omega
        have hs0 : ∀ (v : Value) (cs : List Value), ((insCells y).toList ++ cs).set ((k + 1) * 8) v = (insCells y).toList ++ cs.set (k * 8) v := fun v cs => hs 0 v cs
        rw [List.set_cons_succ, e2, e3, ih k (by simpa using hk)]
        simp only [hs, hs0]
  rw [e]
  exact o7

/-- The world in which an instruction has been laid, cell by cell. -/
def putW (w : World) (g k : Nat) (x : Ins) : World :=
  (((((((w.setCell ⟨g, k * 8, none⟩ (.int .i64 x.op)).setCell ⟨g, k * 8 + 1, none⟩ (.int .i64 x.a)).setCell ⟨g, k * 8 + 2, none⟩ (.int .i64 x.b)).setCell ⟨g, k * 8 + 3, none⟩ (.int .i64 x.c)).setCell ⟨g, k * 8 + 4, none⟩ (.int .i64 x.n)).setCell ⟨g, k * 8 + 5, none⟩ (.int .i64 x.v.kind)).setCell ⟨g, k * 8 + 6, none⟩ (.int .i64 x.v.num)).setCell ⟨g, k * 8 + 7, none⟩ (.string x.v.text)
theorem putW_loc {w : World} {b g k : Nat} {x : Ins} {c : Array Value} {t : TypeId} (h : Loc w b c t) (hne : b ≠ g) : Loc (putW w g k x) b c t :=
  (((((((h.other (a := ⟨g, k * 8, none⟩) hne _).other (a := ⟨g, k * 8 + 1, none⟩) hne _).other (a := ⟨g, k * 8 + 2, none⟩) hne _).other (a := ⟨g, k * 8 + 3, none⟩) hne _).other (a := ⟨g, k * 8 + 4, none⟩) hne _).other (a := ⟨g, k * 8 + 5, none⟩) hne _).other (a := ⟨g, k * 8 + 6, none⟩) hne _).other (a := ⟨g, k * 8 + 7, none⟩) hne _
theorem putW_below {B : Nat} {a w : World} {g k : Nat} {x : Ins} (h : Below B a w) (hg : B ≤ g) : Below B a (putW w g k x) :=
  (((((((h.setCell (p := ⟨g, k * 8, none⟩) hg _).setCell (p := ⟨g, k * 8 + 1, none⟩) hg _).setCell (p := ⟨g, k * 8 + 2, none⟩) hg _).setCell (p := ⟨g, k * 8 + 3, none⟩) hg _).setCell (p := ⟨g, k * 8 + 4, none⟩) hg _).setCell (p := ⟨g, k * 8 + 5, none⟩) hg _).setCell (p := ⟨g, k * 8 + 6, none⟩) hg _).setCell (p := ⟨g, k * 8 + 7, none⟩) hg _
theorem owns_cell {w : World} {base : Nat} {e : TypeId} {size n g c : Nat} {xs : List Value} (h : w.ownsRow base e size (.slice (some ⟨g, 0, none⟩) n c) n xs) (i : Nat) (hi : i < xs.length) : w.cell? ⟨g, i, none⟩ = xs[i]? ∧ w.frozen? ⟨g, i, none⟩ = false := by
  obtain ⟨hl, h⟩ := h
  rcases h with ⟨_, h⟩ | ⟨g', cap, cur, hv, hb, hg, h1, h2, h3, h4⟩
  · rw [h] at hl; omega
  · cases hv
    refine ⟨?_, blk_free hg i⟩
    rw [blk_cell hg i, ← h4, List.getElem?_take_of_lt (by omega), Array.getElem?_toList]
theorem owns_cap {w : World} {base : Nat} {e : TypeId} {size n g c : Nat} {xs : List Value} (h : w.ownsRow base e size (.slice (some ⟨g, 0, none⟩) n c) n xs) (hn : 0 < n) : n ≤ c ∧ base ≤ g ∧ g < w.heap.size := by
  obtain ⟨_, h⟩ := h
  rcases h with ⟨_, h⟩ | ⟨g', cap, cur, hv, hb, hg, h1, h2, h3, h4⟩
  · omega
  · cases hv
    exact ⟨h1, hb, blk_lt hg⟩

set_option maxRecDepth 100000 in
set_option maxHeartbeats 4000000 in
theorem stands_any (p : Prc) (A : Option Addr) (cap g c' : Nat) (w : World) (hr : Row w A (codeCells p.code)) (hg : Row w (some ⟨g, 0, none⟩) (codeCells (p.code ++ marks 9))) (hcap : p.code.length + 9 ≤ c') (hlen : p.code.length ≤ 65536) :
    Calls Try.prog 13 #[.agg (procCells p.name p.args (some ⟨g, 0, none⟩) p.code.length c'), .agg (procCells p.name p.args A p.code.length cap)] w fun e w' => e = .returned (.bool true) ∧ Below w.heap.size w w' := by
  have hsame := fun W (h1 : Row W (some ⟨g, 0, none⟩) (codeCells p.code)) (h2 : Row W A (codeCells p.code)) => refSame_any p p (some ⟨g, 0, none⟩) A c' cap W h1 h2 (by omega) (by omega)
  have hcell : ∀ i, i < 9 → ∀ j, j < 8 → w.cell? ⟨g, (p.code.length + i) * 8 + j, none⟩ = (insCells (markI i))[j]? := by
    intro i hi j hj
    obtain ⟨b, off, hA, hc⟩ := hg.ins (by simp [marks_length])
    cases hA
    have := hc (p.code.length + i) (by simp [marks_length]; exact hi) j hj
    rw [Nat.zero_add] at this
    rw [this]
    congr 1
    rw [List.getElem_append_right (by omega)]
    simp [marks]
  have hgp := hg.code
  obtain ⟨name, args, l⟩ := p
  simp only at *
  obtain ⟨L, hL⟩ : ∃ L, L = l.length := ⟨_, rfl⟩
  rw [← hL] at hcap hlen hsame hcell ⊢
  unfold procCells at *
  have HS := Lib.hid hsame
  have HG := Lib.hid hgp
  have HR := Lib.hid hr
  have HC := Lib.hid hcell
  have hgb : g < w.heap.size := by
    have h := hcell 0 (by decide) 0 (by decide)
    exact World.block_lt_of_cell? w ⟨g, (L + 0) * 8 + 0, none⟩ h
  clear hL hsame hgp hr hcell hg
  go_enter Try.func13, Try.ntmps13
  have b1 := ((Below.refl w.heap.size w).alloc (Nat.le_refl _) (.cells #[.string name, .int .i64 args, .slice (some ⟨g, 0, none⟩) L c'] 24)).alloc (by simp) (.cells #[.string name, .int .i64 args, .slice A L cap] 24)
  have LB1 := (Loc.new w #[.string name, .int .i64 args, .slice (some ⟨g, 0, none⟩) L c'] 24).alloc (.cells #[.string name, .int .i64 args, .slice A L cap] 24)
  have LP1 := Loc.new (w.alloc (.cells #[.string name, .int .i64 args, .slice (some ⟨g, 0, none⟩) L c'] 24)) #[.string name, .int .i64 args, .slice A L cap] 24
  simp only [World.size_alloc] at LP1
  go_wp2_with fail
  refine (HS.out _ (HG.out.of_below b1 (Nat.le_refl _)) (HR.out.of_below b1 (Nat.le_refl _))).mono ?_; rintro e w2 ⟨⟨res, rfl, hres⟩, hb⟩
  obtain rfl : res = true := hres.2 (by trivial)
  have b2 := below_then b1 hb b1.size
  have LB2 := LB1.below hb LB1.lt
  have LP2 := LP1.below hb LP1.lt
  have c0 := LB2.cell 2; have c1 := LP2.cell 2
  simp at c0 c1
  have hsz8 : (Try.prog.info? 28).map (·.size) = some 8 := by kernel_rfl
  have hsl : ∀ W, (Instr.slice 22 (.slice (some ⟨g, 0, none⟩) L c') none (some (.int .i64 ((L : Int) + 9))) none).run Try.prog W = .ok (.slice (some ⟨g, 0, none⟩) (L + 9) c') W := fun W => by
    have h := run_subTo (P := Try.prog) 22 28 8 Try.underlying22 hsz8 (some ⟨g, 0, none⟩) L c' (L + 9) hcap W
    have e : subAddr (some ⟨g, 0, none⟩) 0 c' 8 = some ⟨g, 0, none⟩ := by
      unfold subAddr
      split <;> simp [Addr.add]
    rw [e] at h
    exact h
  clear hres b1 LB1 LP1 hb
  go_wp2
  go_loopw [6] (fun i wr => ∃ k : Nat, k ≤ 9 ∧ i = .int .i64 k ∧ Loc wr (w.heap.size + 1) #[.string name, .int .i64 args, .slice A L cap] 24 ∧ Below w.heap.size w wr) (fun i _ => 9 - (intOf i).toNat)
  case atStart => exact ⟨0, Nat.zero_le _, rfl, LP2, b2⟩
  case round =>
    obtain ⟨wi, rfl⟩ : ∃ wi, wi = wr := ⟨_, rfl⟩
    obtain ⟨k, hk, rfl, LPi, bi⟩ := hrel
    clear c0 c1 LB2 LP2 b2
    by_cases hk9 : k < 9
    · have hk9' : (k : Int) < 9 := by omega
      have hkL : (L : Int) + (k : Int) < (L : Int) + 9 := by omega
      have hkL0 : (0 : Int) ≤ (L : Int) + (k : Int) := by omega
      have hkw : IntKind.i64.wrap ((L : Int) + (k : Int)) = (L : Int) + (k : Int) := by simp [IntKind.bits, IntKind.wrap, IntKind.signed]; omega
      have hkt : ((L : Int) + (k : Int)).toNat = L + k := by omega
      have hmk := fun W => mark_any k hk9 W
      have hq : ∀ W, Below w.heap.size w W → W.cell? ⟨g, (L + k) * 8, none⟩ = some (.int .i64 (77 + (k : Int))) ∧ W.cell? ⟨g, (L + k) * 8 + 1, none⟩ = some (.int .i64 (-1)) ∧ W.cell? ⟨g, (L + k) * 8 + 2, none⟩ = some (.int .i64 0) ∧ W.cell? ⟨g, (L + k) * 8 + 3, none⟩ = some (.int .i64 0) ∧
          W.cell? ⟨g, (L + k) * 8 + 4, none⟩ = some (.int .i64 0) ∧ W.cell? ⟨g, (L + k) * 8 + 5, none⟩ = some (.int .i64 9) ∧ W.cell? ⟨g, (L + k) * 8 + 6, none⟩ = some (.int .i64 0) ∧ W.cell? ⟨g, (L + k) * 8 + 7, none⟩ = some (.string ⟨#[109, 97, 114, 107]⟩) := fun W hW => by
        have h := fun j (hj : j < 8) => (hW.cell (p := ⟨g, (L + k) * 8 + j, none⟩) hgb).trans (HC.out k hk9 j hj)
        exact ⟨h 0 (by decide), h 1 (by decide), h 2 (by decide), h 3 (by decide), h 4 (by decide), h 5 (by decide), h 6 (by decide), h 7 (by decide)⟩
      have HQ := Lib.hid hq
      obtain ⟨q0, q1, q2, q3, q4, q5, q6, q7⟩ := hq wi bi
      have c1 := LPi.cell 2
      simp only [insCells, markI] at hmk
      simp at c1
      have HMK := Lib.hid hmk
      clear hmk hq
      go_wp2
      go_region_held3 (fun V => V.cell? ⟨w.heap.size + 1, 2, none⟩ = some (.slice A L cap) ∧ V.cell? ⟨g, (L + k) * 8, none⟩ = some (.int .i64 (77 + (k : Int))) ∧ V.cell? ⟨g, (L + k) * 8 + 1, none⟩ = some (.int .i64 (-1)) ∧ V.cell? ⟨g, (L + k) * 8 + 2, none⟩ = some (.int .i64 0) ∧ V.cell? ⟨g, (L + k) * 8 + 3, none⟩ = some (.int .i64 0) ∧ V.cell? ⟨g, (L + k) * 8 + 4, none⟩ = some (.int .i64 0) ∧ V.cell? ⟨g, (L + k) * 8 + 5, none⟩ = some (.int .i64 9) ∧ V.cell? ⟨g, (L + k) * 8 + 6, none⟩ = some (.int .i64 0) ∧ V.cell? ⟨g, (L + k) * 8 + 7, none⟩ = some (.string ⟨#[109, 97, 114, 107]⟩)) ((first | exact ⟨c1, q0, q1, q2, q3, q4, q5, q6, q7⟩ | exact ⟨c1', HQ.out _ bi'⟩)) ((first | (go_at_call 21; refine (HMK.out _).mono ?_; rintro e w3 ⟨rfl, hb⟩; have bi' := below_then (bi.drew) hb bi.size; have LPj := (LPi.drew).below hb LPi.lt; have c1' := LPj.cell 2; simp at c1')))
      go_wp2
      go_roundw
      case rel => exact ⟨k + 1, by omega, by go_num, LPj, bi'⟩
      case measure => simp [intOf]; omega
    · obtain rfl : k = 9 := by omega
      go_wp2
      go_ret
      exact ⟨rfl, bi⟩
end Go.Proofs.Ytkggjjipgjijbaa
