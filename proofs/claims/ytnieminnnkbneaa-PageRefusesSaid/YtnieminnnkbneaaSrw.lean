/- Rows of one's own, of procedures and of entries: cells, a thing written over. Printed by gen_srw.py. -/
import Derived.Test.YtnieminnnkbneaaFil
import Derived.Test.YtnieminnnkbneaaLop
import Derived.Test.YtnieminnnkbneaaLkn
namespace Go.Proofs.Ytnieminnnkbneaa
open Go.RowKit

theorem owns_some {w : World} {base : Nat} {e : TypeId} {size n c : Nat} {A : Option Addr} {xs : List Value} (h : w.ownsRow base e size (.slice A n c) n xs) (hn : 0 < n) : ∃ g, A = some ⟨g, 0, none⟩ ∧ n ≤ c := by
  rcases h.2 with ⟨h1, h2⟩ | ⟨g, cap, cur, hv, _, _, hnc, _⟩
  · omega
  · cases hv
    exact ⟨g, rfl, hnc⟩

def putP3 (w : World) (g k : Nat) (v0 v1 v2 : Value) : World := (((w.setCell ⟨g, k * 3, none⟩ v0).setCell ⟨g, k * 3 + 1, none⟩ v1).setCell ⟨g, k * 3 + 2, none⟩ v2)
theorem prcsCells_set (l : List PrcC) (k : Nat) (hk : k < l.length) (x : PrcC) (v0 v1 v2 : Value) (hx : x.cells = #[v0, v1, v2]) : prcsCells (l.set k x) = (((prcsCells l).set (k * 3) v0).set (k * 3 + 1) v1).set (k * 3 + 2) v2 := by
  induction l generalizing k with
  | nil => simp at hk
  | cons y l ih =>
    have e2 : prcsCells (y :: l) = y.cells.toList ++ prcsCells l := rfl
    have hly : y.cells.toList.length = 3 := rfl
    cases k with
    | zero =>
      have e3 : prcsCells (x :: l) = x.cells.toList ++ prcsCells l := rfl
      rw [List.set_cons_zero, e2, e3, hx]
      simp [PrcC.cells, procCells]
    | succ k =>
      have e3 : prcsCells (y :: l.set k x) = y.cells.toList ++ prcsCells (l.set k x) := rfl
      have hs : ∀ (r : Nat) (v : Value) (cs : List Value), (y.cells.toList ++ cs).set ((k + 1) * 3 + r) v = y.cells.toList ++ cs.set (k * 3 + r) v := fun r v cs => by
        rw [List.set_append_right _ _ (by rw [hly]; omega), hly]
        congr 2
        omega
      have hs0 : ∀ (v : Value) (cs : List Value), (y.cells.toList ++ cs).set ((k + 1) * 3) v = y.cells.toList ++ cs.set (k * 3) v := fun v cs => hs 0 v cs
      rw [List.set_cons_succ, e2, e3, ih k (by simpa using hk)]
      simp only [hs, hs0]
theorem owns_putP3 {w : World} {base n g c : Nat} {l : List PrcC} (h : w.ownsRow base 56 3 (.slice (some ⟨g, 0, none⟩) n c) n (prcsCells l)) (k : Nat) (hk : k < l.length) (x : PrcC) (v0 v1 v2 : Value) (hx : x.cells = #[v0, v1, v2]) :
    (putP3 w g k v0 v1 v2).ownsRow base 56 3 (.slice (some ⟨g, 0, none⟩) n c) n (prcsCells (l.set k x)) := by
  have hl : (prcsCells l).length = l.length * 3 := prcsCells_length l
  have o0 := owns_set h (k * 3) (by omega) v0
  have o1 := owns_set o0 (k * 3 + 1) (by simp only [List.length_set]; omega) v1
  have o2 := owns_set o1 (k * 3 + 2) (by simp only [List.length_set]; omega) v2
  rw [prcsCells_set l k hk x v0 v1 v2 hx]
  exact o2
theorem putP3_loc {w : World} {b g k : Nat} {v0 v1 v2 : Value} {c : Array Value} {t : TypeId} (h : Loc w b c t) (hne : b ≠ g) : Loc (putP3 w g k v0 v1 v2) b c t :=
  (((h.other (a := ⟨g, k * 3, none⟩) hne _).other (a := ⟨g, k * 3 + 1, none⟩) hne _).other (a := ⟨g, k * 3 + 2, none⟩) hne _)
theorem putP3_below {B : Nat} {a w : World} {g k : Nat} {v0 v1 v2 : Value} (h : Below B a w) (hg : B ≤ g) : Below B a (putP3 w g k v0 v1 v2) :=
  (((h.setCell (p := ⟨g, k * 3, none⟩) hg _).setCell (p := ⟨g, k * 3 + 1, none⟩) hg _).setCell (p := ⟨g, k * 3 + 2, none⟩) hg _)
theorem putP3_other {W : World} {base size n g k : Nat} {e : TypeId} {v : Value} {xs : List Value} {v0 v1 v2 : Value} (h : W.ownsRow base e size v n xs) (hg : v.ownBlock ≠ some g) : (putP3 W g k v0 v1 v2).ownsRow base e size v n xs :=
  owns_setCell (a := ⟨g, k * 3 + 2, none⟩) (owns_setCell (a := ⟨g, k * 3 + 1, none⟩) (owns_setCell (a := ⟨g, k * 3, none⟩) (h) hg _) hg _) hg _
/-- The cells of one thing of a row of one's own. -/
theorem owns_atP3 {w : World} {base n g c : Nat} {l : List PrcC} (h : w.ownsRow base 56 3 (.slice (some ⟨g, 0, none⟩) n c) n (prcsCells l)) {k : Nat} {x : PrcC} (hx : l[k]? = some x) (j : Nat) (hj : j < 3) :
    w.cell? ⟨g, k * 3 + j, none⟩ = x.cells[j]? ∧ w.frozen? ⟨g, k * 3 + j, none⟩ = false := by
  have hk : k < l.length := by
    rcases Nat.lt_or_ge k l.length with h | h
    · exact h
    · rw [List.getElem?_eq_none h] at hx; cases hx
  have hx' : l[k] = x := by rw [List.getElem?_eq_getElem hk] at hx; exact Option.some.inj hx
  obtain ⟨h1, h2⟩ := owns_cell h (k * 3 + j) (by rw [prcsCells_length]; omega)
  rw [prcsCells_get l k hk j hj, hx'] at h1
  exact ⟨h1, h2⟩

def putE4 (w : World) (g k : Nat) (v0 v1 v2 v3 : Value) : World := ((((w.setCell ⟨g, k * 4, none⟩ v0).setCell ⟨g, k * 4 + 1, none⟩ v1).setCell ⟨g, k * 4 + 2, none⟩ v2).setCell ⟨g, k * 4 + 3, none⟩ v3)
theorem entsCells_set (l : List Ent) (k : Nat) (hk : k < l.length) (x : Ent) (v0 v1 v2 v3 : Value) (hx : x.cells = #[v0, v1, v2, v3]) : entsCells (l.set k x) = ((((entsCells l).set (k * 4) v0).set (k * 4 + 1) v1).set (k * 4 + 2) v2).set (k * 4 + 3) v3 := by
  induction l generalizing k with
  | nil => simp at hk
  | cons y l ih =>
    have e2 : entsCells (y :: l) = y.cells.toList ++ entsCells l := rfl
    have hly : y.cells.toList.length = 4 := rfl
    cases k with
    | zero =>
      have e3 : entsCells (x :: l) = x.cells.toList ++ entsCells l := rfl
      rw [List.set_cons_zero, e2, e3, hx]
      simp [Ent.cells]
    | succ k =>
      have e3 : entsCells (y :: l.set k x) = y.cells.toList ++ entsCells (l.set k x) := rfl
      have hs : ∀ (r : Nat) (v : Value) (cs : List Value), (y.cells.toList ++ cs).set ((k + 1) * 4 + r) v = y.cells.toList ++ cs.set (k * 4 + r) v := fun r v cs => by
        rw [List.set_append_right _ _ (by rw [hly]; omega), hly]
        congr 2
        omega
      have hs0 : ∀ (v : Value) (cs : List Value), (y.cells.toList ++ cs).set ((k + 1) * 4) v = y.cells.toList ++ cs.set (k * 4) v := fun v cs => hs 0 v cs
      rw [List.set_cons_succ, e2, e3, ih k (by simpa using hk)]
      simp only [hs, hs0]
theorem owns_putE4 {w : World} {base n g c : Nat} {l : List Ent} (h : w.ownsRow base 53 4 (.slice (some ⟨g, 0, none⟩) n c) n (entsCells l)) (k : Nat) (hk : k < l.length) (x : Ent) (v0 v1 v2 v3 : Value) (hx : x.cells = #[v0, v1, v2, v3]) :
    (putE4 w g k v0 v1 v2 v3).ownsRow base 53 4 (.slice (some ⟨g, 0, none⟩) n c) n (entsCells (l.set k x)) := by
  have hl : (entsCells l).length = l.length * 4 := entsCells_length l
  have o0 := owns_set h (k * 4) (by omega) v0
  have o1 := owns_set o0 (k * 4 + 1) (by simp only [List.length_set]; omega) v1
  have o2 := owns_set o1 (k * 4 + 2) (by simp only [List.length_set]; omega) v2
  have o3 := owns_set o2 (k * 4 + 3) (by simp only [List.length_set]; omega) v3
  rw [entsCells_set l k hk x v0 v1 v2 v3 hx]
  exact o3
theorem putE4_loc {w : World} {b g k : Nat} {v0 v1 v2 v3 : Value} {c : Array Value} {t : TypeId} (h : Loc w b c t) (hne : b ≠ g) : Loc (putE4 w g k v0 v1 v2 v3) b c t :=
  ((((h.other (a := ⟨g, k * 4, none⟩) hne _).other (a := ⟨g, k * 4 + 1, none⟩) hne _).other (a := ⟨g, k * 4 + 2, none⟩) hne _).other (a := ⟨g, k * 4 + 3, none⟩) hne _)
theorem putE4_below {B : Nat} {a w : World} {g k : Nat} {v0 v1 v2 v3 : Value} (h : Below B a w) (hg : B ≤ g) : Below B a (putE4 w g k v0 v1 v2 v3) :=
  ((((h.setCell (p := ⟨g, k * 4, none⟩) hg _).setCell (p := ⟨g, k * 4 + 1, none⟩) hg _).setCell (p := ⟨g, k * 4 + 2, none⟩) hg _).setCell (p := ⟨g, k * 4 + 3, none⟩) hg _)
theorem putE4_other {W : World} {base size n g k : Nat} {e : TypeId} {v : Value} {xs : List Value} {v0 v1 v2 v3 : Value} (h : W.ownsRow base e size v n xs) (hg : v.ownBlock ≠ some g) : (putE4 W g k v0 v1 v2 v3).ownsRow base e size v n xs :=
  owns_setCell (a := ⟨g, k * 4 + 3, none⟩) (owns_setCell (a := ⟨g, k * 4 + 2, none⟩) (owns_setCell (a := ⟨g, k * 4 + 1, none⟩) (owns_setCell (a := ⟨g, k * 4, none⟩) (h) hg _) hg _) hg _) hg _
/-- The cells of one thing of a row of one's own. -/
theorem owns_atE4 {w : World} {base n g c : Nat} {l : List Ent} (h : w.ownsRow base 53 4 (.slice (some ⟨g, 0, none⟩) n c) n (entsCells l)) {k : Nat} {x : Ent} (hx : l[k]? = some x) (j : Nat) (hj : j < 4) :
    w.cell? ⟨g, k * 4 + j, none⟩ = x.cells[j]? ∧ w.frozen? ⟨g, k * 4 + j, none⟩ = false := by
  have hk : k < l.length := by
    rcases Nat.lt_or_ge k l.length with h | h
    · exact h
    · rw [List.getElem?_eq_none h] at hx; cases hx
  have hx' : l[k] = x := by rw [List.getElem?_eq_getElem hk] at hx; exact Option.some.inj hx
  obtain ⟨h1, h2⟩ := owns_cell h (k * 4 + j) (by rw [entsCells_length]; omega)
  rw [entsCells_get l k hk j hj, hx'] at h1
  exact ⟨h1, h2⟩
end Go.Proofs.Ytnieminnnkbneaa
