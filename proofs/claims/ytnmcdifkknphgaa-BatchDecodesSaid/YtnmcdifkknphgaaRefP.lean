/- The document's reading of an instruction and the program's are the same: no walk. -/
import Derived.Test.YtnmcdifkknphgaaRefK
import Derived.Test.YtnmcdifkknphgaaProc7
import Derived.Test.YtnmcdifkknphgaaRef3
namespace Go.Proofs.Ytnmcdifkknphgaa

def takeAll : Rdr → Ins → Bs → (Rdr × Ins) × Int
  | r, x, [] => ((r, x), 0)
  | r, x, c :: l => if (takenM r x c).2 ≠ 0 then takenM r x c else takeAll (takenM r x c).1.1 (takenM r x c).1.2 l

def Fld.lett : Fld → UInt8
  | .a => 65
  | .b => 66
  | .c => 67
  | .arg | .how | .many => 78
  | .skip => 97

theorem fieldsS_eq {op : Int} (h1 : 1 ≤ op) (h2 : op ≤ 16) : fieldsS op = (fieldsOf op).map Fld.lett ++ (if hasVal op then [86] else []) := by
  have h : op = 1 ∨ op = 2 ∨ op = 3 ∨ op = 4 ∨ op = 5 ∨ op = 6 ∨ op = 7 ∨ op = 8 ∨ op = 9 ∨ op = 10 ∨ op = 11 ∨ op = 12 ∨ op = 13 ∨ op = 14 ∨ op = 15 ∨ op = 16 := by omega
  rcases h with rfl | rfl | rfl | rfl | rfl | rfl | rfl | rfl | rfl | rfl | rfl | rfl | rfl | rfl | rfl | rfl <;> decide

theorem fieldsS_none {op : Int} (h : op < 1 ∨ 16 < op) : fieldsS op = [63] := by
  unfold fieldsS
  simp only [show ¬ op = 1 by omega, show ¬ op = 2 by omega, show ¬ op = 3 by omega, show ¬ op = 4 by omega, show ¬ op = 5 by omega, show ¬ op = 6 by omega, show ¬ op = 7 by omega, show ¬ op = 8 by omega, show ¬ op = 9 by omega, show ¬ op = 10 by omega, show ¬ op = 11 by omega, show ¬ op = 12 by omega, show ¬ op = 13 by omega, show ¬ op = 14 by omega, show ¬ op = 15 by omega, show ¬ op = 16 by omega, or_self, if_false]

theorem fieldsS_some {op : Int} (h1 : 1 ≤ op) (h2 : op ≤ 16) : fieldsS op ≠ [63] := by
  have h : op = 1 ∨ op = 2 ∨ op = 3 ∨ op = 4 ∨ op = 5 ∨ op = 6 ∨ op = 7 ∨ op = 8 ∨ op = 9 ∨ op = 10 ∨ op = 11 ∨ op = 12 ∨ op = 13 ∨ op = 14 ∨ op = 15 ∨ op = 16 := by omega
  rcases h with rfl | rfl | rfl | rfl | rfl | rfl | rfl | rfl | rfl | rfl | rfl | rfl | rfl | rfl | rfl | rfl <;> decide

theorem taken_fld (r : Rdr) (x : Ins) (f : Fld) : takenM r x f.lett = (((readFld r x f).2, (readFld r x f).1), (readFld r x f).2.err) := by
  cases f <;> simp [takenM, readFld, Fld.lett, Fld.one, Fld.put]

theorem takeAll_flds (l : List Fld) : ∀ (r : Rdr) (x : Ins) (t : Bs), takeAll r x (l.map Fld.lett ++ t) =
    if (readFlds r x l).2 ≠ 0 then (((readFlds r x l).1.2, (readFlds r x l).1.1), (readFlds r x l).2) else takeAll (readFlds r x l).1.2 (readFlds r x l).1.1 t := by
  induction l with
  | nil => intro r x t; simp [readFlds]
  | cons f l ih =>
    intro r x t
    simp only [List.map_cons, List.cons_append, takeAll, taken_fld]
    rw [readFlds]
    simp only
    split
    · rfl
    · exact ih _ _ t

theorem readFld_xs (r : Rdr) (x : Ins) (f : Fld) : (readFld r x f).2.xs = r.xs := by
  unfold readFld
  split
  · exact byte_xs r
  · exact number_xs r

theorem readFlds_xs (l : List Fld) : ∀ (r : Rdr) (x : Ins), (readFlds r x l).1.2.xs = r.xs := by
  induction l with
  | nil => intro r x; rfl
  | cons f l ih =>
    intro r x
    rw [readFlds]
    simp only
    split
    · exact readFld_xs r x f
    · rw [ih]; exact readFld_xs r x f

/-- An instruction as the document reads it. -/
def rIns (r : Rdr) : (Rdr × Ins) × Int :=
  if r.byte.2.err ≠ 0 then ((r.byte.2, zeroIns 0), r.byte.2.err) else if fieldsS r.byte.1 = [63] then ((r.byte.2, zeroIns 0), 16) else takeAll r.byte.2 (zeroIns r.byte.1) (fieldsS r.byte.1)

theorem rIns_eq (r : Rdr) : (readIns r.xs.length r).2 = (rIns r).2 ∧ ((rIns r).2 = 0 → (readIns r.xs.length r).1 = ((rIns r).1.2, (rIns r).1.1)) := by
  have hx := byte_xs r
  unfold rIns readIns
  generalize r.byte = Q at hx ⊢
  obtain ⟨o, q⟩ := Q
  simp only at hx ⊢
  by_cases h0 : q.err = 0
  · have e0 : (q.err ≠ 0) = False := by simp [h0]
    simp only [e0, if_false]
    by_cases h1 : (o : Int) < 1 ∨ 16 < (o : Int)
    · simp only [h1, if_true, fieldsS_none h1]
      simp
    · have ho1 : 1 ≤ (o : Int) := by omega
      have ho2 : (o : Int) ≤ 16 := by omega
      simp only [h1, if_false, fieldsS_some ho1 ho2]
      rw [fieldsS_eq ho1 ho2, takeAll_flds]
      have hfx := readFlds_xs (fieldsOf o) q (zeroIns o)
      generalize readFlds q (zeroIns o) (fieldsOf o) = Q at hfx ⊢
      obtain ⟨⟨x, q2⟩, e⟩ := Q
      simp only at hfx ⊢
      by_cases he : e = 0
      · have e1 : (e ≠ 0) = False := by simp [he]
        simp only [e1, if_false]
        cases hv : hasVal (o : Int) with
        | true =>
          simp only [if_true, takeAll]
          have hm : takenM q2 x 86 = if (q2.text q2.xs.length).2.err = 0 then (((q2.text q2.xs.length).2, { x with v := (datumDecode (q2.text q2.xs.length).1).1 }), (datumDecode (q2.text q2.xs.length).1).2) else (((q2.text q2.xs.length).2, x), (q2.text q2.xs.length).2.err) := rfl
          rw [hm, hfx, hx]
          rcases q2.text (r.xs.length : Int) with ⟨s, q3⟩
          simp only
          by_cases h3 : q3.err = 0
          · have e3 : (q3.err ≠ 0) = False := by simp [h3]
            simp only [h3, if_true]
            rcases datumDecode s with ⟨v, e2⟩
            simp only
            by_cases h4 : e2 = 0
            · simp [h4]
            · simp [h4]
          · simp [h3]
        | false => simp [takeAll]
      · have e1 : (e ≠ 0) = True := by simp [he]
        simp only [e1, if_true]
        exact ⟨trivial, fun h => absurd h he⟩
  · simp [h0]
end Go.Proofs.Ytnmcdifkknphgaa
