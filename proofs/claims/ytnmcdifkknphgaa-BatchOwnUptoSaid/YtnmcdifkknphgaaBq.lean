/- A transaction of a row of one's own written over, cell by cell; a number brought into a row. -/
import Derived.Test.YtnmcdifkknphgaaBv
namespace Go.Proofs.Ytnmcdifkknphgaa
open Go.RowKit

theorem idx_case (i : Int) (n : Nat) (h : 0 < n) : ∃ k : Nat, k < n ∧ ((0 ≤ i.tmod (n : Int) ∧ i.tmod (n : Int) = (k : Int)) ∨ (i.tmod (n : Int) < 0 ∧ i.tmod (n : Int) + (n : Int) = (k : Int))) := by
  have hlt : (i.tmod (n : Int)).natAbs < n := by
    rw [Int.natAbs_tmod, Int.natAbs_natCast]
    exact Nat.mod_lt _ h
  by_cases h : 0 ≤ i.tmod (n : Int)
  · exact ⟨(i.tmod (n : Int)).toNat, by omega, .inl ⟨h, by omega⟩⟩
  · exact ⟨(i.tmod (n : Int) + n).toNat, by omega, .inr ⟨by omega, by omega⟩⟩

/-- The world in which a transaction has been laid, cell by cell. -/
def putT (w : World) (g k : Nat) (v0 v1 v2 v3 v4 v5 : Value) : World :=
  ((((((w).setCell ⟨g, k * 6, none⟩ v0).setCell ⟨g, k * 6 + 1, none⟩ v1).setCell ⟨g, k * 6 + 2, none⟩ v2).setCell ⟨g, k * 6 + 3, none⟩ v3).setCell ⟨g, k * 6 + 4, none⟩ v4).setCell ⟨g, k * 6 + 5, none⟩ v5

theorem txns_set (l : List TxnC) (k : Nat) (hk : k < l.length) (x : TxnC) (v0 v1 v2 v3 v4 v5 : Value) (hx : x.cells = #[v0, v1, v2, v3, v4, v5]) : txnsCells (l.set k x) = ((((((txnsCells l).set (k * 6) v0).set (k * 6 + 1) v1).set (k * 6 + 2) v2).set (k * 6 + 3) v3).set (k * 6 + 4) v4).set (k * 6 + 5) v5 := by
  have hxl : x.cells.toList = [v0, v1, v2, v3, v4, v5] := by rw [hx]
  induction l generalizing k with
  | nil => simp at hk
  | cons y l ih =>
    have e2 : txnsCells (y :: l) = y.cells.toList ++ txnsCells l := rfl
    have hly : y.cells.toList.length = 6 := rfl
    cases k with
    | zero =>
      have e3 : txnsCells (x :: l) = x.cells.toList ++ txnsCells l := rfl
      rw [List.set_cons_zero, e2, e3, hxl]
      simp [TxnC.cells]
    | succ k =>
      have e3 : txnsCells (y :: l.set k x) = y.cells.toList ++ txnsCells (l.set k x) := rfl
      have hs : ∀ (r : Nat) (v : Value) (cs : List Value), (y.cells.toList ++ cs).set ((k + 1) * 6 + r) v = y.cells.toList ++ cs.set (k * 6 + r) v := fun r v cs => by
        rw [List.set_append_right _ _ (by rw [hly]; omega), hly]
        congr 2
        omega
      have hs0 : ∀ (v : Value) (cs : List Value), (y.cells.toList ++ cs).set ((k + 1) * 6) v = y.cells.toList ++ cs.set (k * 6) v := fun v cs => hs 0 v cs
      rw [List.set_cons_succ, e2, e3, ih k (by simpa using hk)]
      simp only [hs, hs0]

theorem owns_putT {w : World} {base n g c : Nat} {l : List TxnC} (h : w.ownsRow base 30 6 (.slice (some ⟨g, 0, none⟩) n c) n (txnsCells l)) (k : Nat) (hk : k < l.length) (x : TxnC) (v0 v1 v2 v3 v4 v5 : Value) (hx : x.cells = #[v0, v1, v2, v3, v4, v5]) :
    (putT w g k v0 v1 v2 v3 v4 v5).ownsRow base 30 6 (.slice (some ⟨g, 0, none⟩) n c) n (txnsCells (l.set k x)) := by
  have hl : (txnsCells l).length = l.length * 6 := txnsCells_length l
  have o0 := owns_set h (k * 6) (by omega) v0
  have o1 := owns_set o0 (k * 6 + 1) (by simp only [List.length_set]; omega) v1
  have o2 := owns_set o1 (k * 6 + 2) (by simp only [List.length_set]; omega) v2
  have o3 := owns_set o2 (k * 6 + 3) (by simp only [List.length_set]; omega) v3
  have o4 := owns_set o3 (k * 6 + 4) (by simp only [List.length_set]; omega) v4
  have o5 := owns_set o4 (k * 6 + 5) (by simp only [List.length_set]; omega) v5
  rw [txns_set l k hk x v0 v1 v2 v3 v4 v5 hx]
  exact o5

theorem putT_loc {w : World} {b g k : Nat} {v0 v1 v2 v3 v4 v5 : Value} {c : Array Value} {t : TypeId} (h : Loc w b c t) (hne : b ≠ g) : Loc (putT w g k v0 v1 v2 v3 v4 v5) b c t :=
  ((((((h).other (a := ⟨g, k * 6, none⟩) hne _).other (a := ⟨g, k * 6 + 1, none⟩) hne _).other (a := ⟨g, k * 6 + 2, none⟩) hne _).other (a := ⟨g, k * 6 + 3, none⟩) hne _).other (a := ⟨g, k * 6 + 4, none⟩) hne _).other (a := ⟨g, k * 6 + 5, none⟩) hne _
theorem putT_below {B : Nat} {a w : World} {g k : Nat} {v0 v1 v2 v3 v4 v5 : Value} (h : Below B a w) (hg : B ≤ g) : Below B a (putT w g k v0 v1 v2 v3 v4 v5) :=
  ((((((h).setCell (p := ⟨g, k * 6, none⟩) hg _).setCell (p := ⟨g, k * 6 + 1, none⟩) hg _).setCell (p := ⟨g, k * 6 + 2, none⟩) hg _).setCell (p := ⟨g, k * 6 + 3, none⟩) hg _).setCell (p := ⟨g, k * 6 + 4, none⟩) hg _).setCell (p := ⟨g, k * 6 + 5, none⟩) hg _

theorem owns_apart {w : World} {b1 b2 : Nat} {e e' : TypeId} {s1 s2 n1 n2 g n c : Nat} {v : Value} {xs ys : List Value} (h : w.ownsRow b1 e s1 v n1 xs) (h2 : w.ownsRow b2 e' s2 (.slice (some ⟨g, 0, none⟩) n c) n2 ys) (he : e ≠ e') : v.ownBlock ≠ some g := by
  obtain ⟨hl2, h2⟩ := h2
  rcases h2 with ⟨h2, _⟩ | ⟨g', cap, cur, hv, hb, hg, _⟩
  · cases h2
  · cases hv
    obtain ⟨hl, h⟩ := h
    rcases h with ⟨rfl, _⟩ | ⟨g1, cap1, cur1, rfl, _, hh, _⟩
    · intro h; cases h
    · intro hx
      simp only [Value.ownBlock, Option.some.injEq] at hx
      subst hx
      rw [hh] at hg
      simp at hg
      exact he hg.2

theorem Twin.putT {W : World} {base b2 n2 g n c k : Nat} {y : TxnC} {v0 v1 v2 v3 v4 v5 : Value} {ys : List Value} (h : Twin W base y) (h2 : W.ownsRow b2 30 6 (.slice (some ⟨g, 0, none⟩) n c) n2 ys) : Twin (putT W g k v0 v1 v2 v3 v4 v5) base y := by
  have ha := owns_apart h.a h2 (by decide)
  have hb := owns_apart h.b h2 (by decide)
  refine ⟨?_, ?_⟩
  · exact owns_setCell (a := ⟨g, k * 6 + 5, none⟩) (owns_setCell (a := ⟨g, k * 6 + 4, none⟩) (owns_setCell (a := ⟨g, k * 6 + 3, none⟩) (owns_setCell (a := ⟨g, k * 6 + 2, none⟩) (owns_setCell (a := ⟨g, k * 6 + 1, none⟩) (owns_setCell (a := ⟨g, k * 6, none⟩) h.a ha _) ha _) ha _) ha _) ha _) ha _
  · exact owns_setCell (a := ⟨g, k * 6 + 5, none⟩) (owns_setCell (a := ⟨g, k * 6 + 4, none⟩) (owns_setCell (a := ⟨g, k * 6 + 3, none⟩) (owns_setCell (a := ⟨g, k * 6 + 2, none⟩) (owns_setCell (a := ⟨g, k * 6 + 1, none⟩) (owns_setCell (a := ⟨g, k * 6, none⟩) h.b hb _) hb _) hb _) hb _) hb _) hb _
end Go.Proofs.Ytnmcdifkknphgaa
