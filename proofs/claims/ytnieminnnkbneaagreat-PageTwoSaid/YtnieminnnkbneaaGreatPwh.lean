/- Walks of page.Writer: head, and what head and End lay. -/
import Derived.Test.YtnieminnnkbneaaGreatPwf
namespace Go.Proofs.YtnieminnnkbneaaGreat
open Go.RowKit

/-- Lay from one's own world on, for any world ahead of it that has what is wanted. -/
theorem lay_numbers {q : Nat} {w0 W : World} {xs : Bs} (h : Lay q (fun _ => False) w0 W xs) (a : Nat) (ha : a ≤ 281474976710655) (hl : xs.length ≤ 100000) :
    Calls Tryz.prog 39 #[.pointer (some ⟨q, 0, none⟩), .int .i64 a] W fun e w' => e = .returned (.tuple #[]) ∧ Lay q (fun _ => False) w0 w' (xs ++ encNumber a) :=
  h.call0 (fun F hW => wnumber_any q F xs (a : Int) W hW (by omega) (by omega) (by omega))

set_option maxHeartbeats 1000000 in
theorem more_head (p cb : Nat) (x : PW) (out : Value) (w : World) (pre : Bs) (hpre : pre.length ≤ 1000) (L : Loc w p (x.cells out) 56) (C : w.cell? ⟨cb, 0, none⟩ = some (.pointer (some ⟨p, 0, none⟩))) (h1 : x.number ≤ 281474976710655) (h2 : x.mark ≤ 281474976710655) :
    More 72 cb w pre (encNumber x.number ++ encNumber x.mark) := by
  intro W hW
  obtain ⟨live, number, mark, fr, pr, en, name, key⟩ := x
  unfold PW.cells at *
  simp only at *
  have hl1 := encNumber_le (number : Int)
  have hC : ∀ W, Lay w.heap.size (fun _ => False) w W (pre ++ encNumber number) ∨ Lay w.heap.size (fun _ => False) w W pre → W.cell? ⟨cb, 0, none⟩ = some (.pointer (some ⟨p, 0, none⟩)) ∧ W.cell? ⟨p, 1, none⟩ = some (.int .i64 number) ∧ W.cell? ⟨p, 2, none⟩ = some (.int .i64 mark) := by
    intro W h
    have hb : Below w.heap.size w W := by rcases h with h | h <;> exact h.bel
    have L' := L.below hb L.lt
    have l1 := L'.cell 1
    have l2 := L'.cell 2
    simp at l1 l2
    exact ⟨by rw [← C]; exact hb.cell (p := ⟨cb, 0, none⟩) (World.block_lt_of_cell? w _ C), l1, l2⟩
  have HW := Lib.hid hW
  have HC := Lib.hid hC
  obtain ⟨c0, c1, _⟩ := hC W (.inr hW)
  obtain ⟨q, hq⟩ : ∃ q, q = w.heap.size := ⟨_, rfl⟩
  rw [← hq] at HW HC ⊢
  clear hW hC hq L C
  go_enter Tryz.func72, Tryz.ntmps72
  go_upto_region 1 with (go_at_call 39; refine (lay_numbers HW.out number h1 (by omega)).mono ?_; rintro e w1 ⟨rfl, LY1⟩)
  obtain ⟨d0, _, d2⟩ := HC.out w1 (.inl LY1)
  go_wp2_with (go_at_call 39; refine (lay_numbers LY1 mark h2 (by simp; omega)).mono ?_; rintro e w2 ⟨rfl, LY2⟩)
  go_end0
  exact ⟨rfl, by rw [← List.append_assoc]; exact LY2⟩

set_option maxHeartbeats 1000000 in
theorem more_end (p cb : Nat) (x : PW) (out : Value) (w : World) (pre : Bs) (hpre : pre.length ≤ 1000) (L : Loc w p (x.cells out) 56) (C : w.cell? ⟨cb, 0, none⟩ = some (.pointer (some ⟨p, 0, none⟩))) (h1 : x.procs ≤ 281474976710655) (h2 : x.entries ≤ 281474976710655) :
    More 42 cb w pre (encNumber x.procs ++ encNumber x.entries) := by
  intro W hW
  obtain ⟨live, number, mark, fr, pr, en, name, key⟩ := x
  unfold PW.cells at *
  simp only at *
  have hl1 := encNumber_le (pr : Int)
  have hC : ∀ W, Lay w.heap.size (fun _ => False) w W (pre ++ encNumber pr) ∨ Lay w.heap.size (fun _ => False) w W pre → W.cell? ⟨cb, 0, none⟩ = some (.pointer (some ⟨p, 0, none⟩)) ∧ W.cell? ⟨p, 4, none⟩ = some (.int .i64 pr) ∧ W.cell? ⟨p, 5, none⟩ = some (.int .i64 en) := by
    intro W h
    have hb : Below w.heap.size w W := by rcases h with h | h <;> exact h.bel
    have L' := L.below hb L.lt
    have l1 := L'.cell 4
    have l2 := L'.cell 5
    simp at l1 l2
    exact ⟨by rw [← C]; exact hb.cell (p := ⟨cb, 0, none⟩) (World.block_lt_of_cell? w _ C), l1, l2⟩
  have HW := Lib.hid hW
  have HC := Lib.hid hC
  obtain ⟨c0, c1, _⟩ := hC W (.inr hW)
  obtain ⟨q, hq⟩ : ∃ q, q = w.heap.size := ⟨_, rfl⟩
  rw [← hq] at HW HC ⊢
  clear hW hC hq L C
  go_enter Tryz.func42, Tryz.ntmps42
  go_upto_region 1 with (go_at_call 39; refine (lay_numbers HW.out pr h1 (by omega)).mono ?_; rintro e w1 ⟨rfl, LY1⟩)
  obtain ⟨d0, _, d2⟩ := HC.out w1 (.inl LY1)
  go_wp2_with (go_at_call 39; refine (lay_numbers LY1 en h2 (by simp; omega)).mono ?_; rintro e w2 ⟨rfl, LY2⟩)
  go_end0
  exact ⟨rfl, by rw [← List.append_assoc]; exact LY2⟩

set_option maxHeartbeats 1000000 in
theorem more_proc (cb : Nat) (ys : Bs) (A : Option Addr) (n c : Nat) (hn : n = ys.length) (hA : A = none → n = 0) (w : World) (pre : Bs) (hl : pre.length + ys.length ≤ 100000) (C : w.cell? ⟨cb, 0, none⟩ = some (.slice A n c)) (hr : Row w A (cellsB ys)) :
    More 75 cb w pre (encText ys) := by
  intro W hW
  have C0 : W.cell? ⟨cb, 0, none⟩ = some (.slice A n c) := by rw [← C]; exact hW.bel.cell (p := ⟨cb, 0, none⟩) (World.block_lt_of_cell? w _ C)
  have hcv := run_ofBytes (P := Tryz.prog) 33 9 5 Tryz.underlying33 Tryz.underlying5 Tryz.underlying9 (W := W) (A := A) n c hn (hr.of_below hW.bel (Nat.le_refl _)) hA
  have HT := Lib.hid (hW.call0 (fun F h => wtext_any w.heap.size F pre ⟨ys.toArray⟩ W h (by show pre.length + ys.length + 10 ≤ _; omega)))
  obtain ⟨q, hq⟩ : ∃ q, q = w.heap.size := ⟨_, rfl⟩
  rw [← hq] at HT ⊢
  clear hW hq C hr hn hA
  go_enter Tryz.func75, Tryz.ntmps75
  go_wp2_with (go_at_call 41; refine HT.out.mono ?_; rintro e w1 ⟨rfl, LY1⟩)
  go_end0
  exact ⟨rfl, LY1⟩

/-- An entry. -/
structure Ent where
  key : ByteArray
  v : Val
def Ent.cells (x : Ent) : Array Value := #[.string x.key, .int .i64 x.v.kind, .int .i64 x.v.num, .string x.v.text]
def entsCells (l : List Ent) : List Value := l.flatMap fun x => x.cells.toList
theorem entsCells_length (l : List Ent) : (entsCells l).length = l.length * 4 := by
  induction l with
  | nil => rfl
  | cons x l ih => simp [entsCells, Ent.cells] at ih ⊢; omega
theorem entsCells_get (l : List Ent) (k : Nat) (h : k < l.length) (j : Nat) (hj : j < 4) : (entsCells l)[k * 4 + j]? = (l[k]).cells[j]? := by
  induction l generalizing k with
  | nil => simp at h
  | cons x l ih =>
    have hx : entsCells (x :: l) = x.cells.toList ++ entsCells l := rfl
    have hx4 : x.cells.toList.length = 4 := rfl
    rw [hx]
    cases k with
    | zero =>
      rw [List.getElem?_append_left (by rw [hx4]; omega)]
      simp
    | succ k =>
      rw [List.getElem?_append_right (by rw [hx4]; omega), hx4, show (k + 1) * 4 + j - 4 = k * 4 + j by omega, ih k (by simpa using h)]
      rfl
theorem Row.ents {w : World} {A : Option Addr} {l : List Ent} (h : Row w A (entsCells l)) (hp : 0 < l.length) : ∃ b off, A = some ⟨b, off, none⟩ ∧ b < w.heap.size ∧ ∀ j (hj : j < l.length), ∀ i, i < 4 → w.cell? ⟨b, off + j * 4 + i, none⟩ = (l[j]).cells[i]? := by
  obtain ⟨b, off, hA, hlt, hc⟩ := h.at (by rw [entsCells_length]; omega)
  refine ⟨b, off, hA, hlt, fun j hj i hi => ?_⟩
  rw [Nat.add_assoc, hc _ (by rw [entsCells_length]; omega), entsCells_get l j hj i hi]

def entBytes (x : Ent) : Bs := encText x.key.data.toList ++ encText (datumBytes x.v)
def entsBytes (l : List Ent) : Bs := encNumber l.length ++ l.flatMap entBytes

def Ent.inR (x : Ent) : Prop := i64R x.v.kind ∧ i64R x.v.num

end Go.Proofs.YtnieminnnkbneaaGreat
